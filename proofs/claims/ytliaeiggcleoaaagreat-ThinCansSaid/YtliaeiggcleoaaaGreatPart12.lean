/- Thin: the reference's Can: its loops. -/
import Derived.Test.YtliaeiggcleoaaaGreatPart11
import Derived.Test.YtliaeiggcleoaaaGreatPart9
import Derived.Test.YtliaeiggcleoaaaGreatPart5
namespace Go.Hn
open Go.Hx Go.Hg Go.Proofs
noncomputable def NRm:Ad:=((((({}:Ad).Ag 85 cFi2).Ag 23 cJnd).Ag 87 cOw).Ag 88 cBk).Ag 84 cWo2
theorem okNRm:Ab Tryz.prog NRm.env:=((((Af.Ag eFi2 oFi2).Ag eJr oJr).Ag eOw oOw).Ag eBk oBk).Ag eWo2 oWo2
def shV9:Hx.S1:=⟨80,[(2,.ptr 0 1 0 0),(5,I64),(6,.ptr 1 1 0 0),(7,I64)],[.one 65 4 mapX,.onef 44 8 wayX]⟩
abbrev lV9 (a i:Int) (fa:Bool) (es:List PV) (fb:Bool) (bs:List PV) (f:Bool) (ws:List PV) (fd:Bool) (ds:List PV) (w:PV):LS:=
 ([.i a,.i i],[.l fa es,.l fb bs,.l f ws,.l fd ds,.i (wI w),.l false (wL w),.i (wLv w),.s ((w.cellAt 3).getS),.s ((w.cellAt 4).getS),.b ((w.cellAt 5).getB),.i ((w.cellAt 6).getI),.i ((w.cellAt 7).getI)])
noncomputable abbrev hV9 (fa:Bool) (es:List PV) (fb:Bool) (bs:List PV) (f:Bool) (ws:List PV) (fd:Bool) (ds:List PV) (w:PV):List Row:=(shV9.put (lV9 0 0 fa es fb bs f ws fd ds w)).2
noncomputable abbrev rV9 (a:Int) (fa:Bool) (es:List PV) (fb:Bool) (bs:List PV) (f:Bool) (ws:List PV) (fd:Bool) (ds:List PV) (w:PV):PX × List PV × List Row:=(.ret,tm 80 [(2,.ptr 0 1 0 0),(4,iv 25),(5,iv a),(6,.ptr 1 1 0 0)],hV9 fa es fb bs f ws fd ds w)
noncomputable abbrev xV9 (a:Int) (fa:Bool) (es:List PV) (fb:Bool) (bs:List PV) (f:Bool) (ws:List PV) (fd:Bool) (ds:List PV) (w:PV):PX × List PV × List Row:=(.exit 0,tm 80 [(2,.ptr 0 1 0 0),(5,iv a),(6,.ptr 1 1 0 0)],hV9 fa es fb bs f ws fd ds w)
theorem qV9 (a i:Int) (fa:Bool) (es:List PV) (fb:Bool) (bs:List PV) (f:Bool) (ws:List PV) (fd:Bool) (ds:List PV) (w:PV):Al Tryz.prog NRm 60 38 (Ao Tryz.f38 8) [2,5,6,7] [2,4,5,6] (shV9.put (lV9 a i fa es fb bs f ws fd ds w)).1 (shV9.put (lV9 a i fa es fb bs f ws fd ds w)).2 =
 bif decide (i<(ws.length:Int)) then bif inr ws i then bif wDs (ws.getD i.toNat .any) != wDs w then bif inr ws i then bif An (wL (ws.getD i.toNat .any))&&An (wL w) then
   bif jnW (ws.getD i.toNat .any) w then some (rV9 a fa es fb bs f ws fd ds w) else some (.normal,shV9.put (lV9 a (W (i+1)) fa es fb bs f ws fd ds w)) else none else none
  else some (.normal,shV9.put (lV9 a (W (i+1)) fa es fb bs f ws fd ds w)) else none
 else some (xV9 a fa es fb bs f ws fd ds w):=by kernel_rfl
def shW9:Hx.S1:=⟨80,[(6,.ptr 1 1 0 0),(10,.Ac 44),(11,I64)],[.one 65 4 mapX,.onef 44 8 wayX]⟩
abbrev lW9 (g:Bool) (os:List PV) (i:Int) (fa:Bool) (es:List PV) (fb:Bool) (bs:List PV) (f:Bool) (ws:List PV) (fd:Bool) (ds:List PV) (w:PV):LS:=
 ([.l g os,.i i],[.l fa es,.l fb bs,.l f ws,.l fd ds,.i (wI w),.l false (wL w),.i (wLv w),.s ((w.cellAt 3).getS),.s ((w.cellAt 4).getS),.b ((w.cellAt 5).getB),.i ((w.cellAt 6).getI),.i ((w.cellAt 7).getI)])
end Go.Hn
/- Thin: the reference's Can: the contracts of its loops. -/
namespace Go.Hn
open Go.Hx Go.Hg Go.Proofs
def bdR (ws:List PV) (w:PV):Int->Nat->Bool
 | _,0=>false
 | i,n+1=>(odB ws w i&&jnW (ws.getD i.toNat .any) w)||bdR ws w (i+1) n
def pV9:LS->Bool
 | ([.i _,.i i],[.l _ _,.l _ _,.l _ ws,.l _ _,.i _,.l _ M,.i _,.s _,.s _,.b _,.i _,.i _])=>decide (0<=i)&&(okB ws&&An M)
 | _=>false
noncomputable def fV9:LS->DT (PX × List PV × List Row)
 | ([.i a,.i i],[.l fa es,.l fb bs,.l f ws,.l fd ds,.i id,.l false M,.i lv,.s c,.s nm,.b s,.i wt,.i di]) =>
  .br (bdR ws (wyE id M lv c nm s wt di) i ((ws.length:Int)-i).toNat) (.leaf (rV9 a fa es fb bs f ws fd ds (wyE id M lv c nm s wt di))) (.leaf (xV9 a fa es fb bs f ws fd ds (wyE id M lv c nm s wt di)))
 | _=>.no
def mV9:LS->Nat
 | ([.i _,.i i],[.l _ _,.l _ _,.l _ ws,.l _ _,.i _,.l _ _,.i _,.s _,.s _,.b _,.i _,.i _])=>((ws.length:Int)-i).toNat
 | _=>0
theorem sV9:∀ s r,pV9 s=true->(fV9 s).run=some r->r.1 ≠ .normal/\(Al Tryz.prog NRm 60 38 (Ao Tryz.f38 8) [2,5,6,7] [2,4,5,6] (shV9.put s).1 (shV9.put s).2=some r \/
   ∃ s',Al Tryz.prog NRm 60 38 (Ao Tryz.f38 8) [2,5,6,7] [2,4,5,6] (shV9.put s).1 (shV9.put s).2=some (.normal,shV9.put s')/\pV9 s'=true/\mV9 s'<mV9 s/\(fV9 s').run=some r):=by
 intro t r hp hr
 unfold pV9 at hp; split at hp
 ·rename_i a i fa es fb bs f ws fd ds id fM M lv c nm s wt di
  cases fM with
  | true=>cases hr
  | false =>
  simp only[Bool.and_eq_true,decide_eq_true_eq] at hp
  obtain ⟨h1,h7,h8⟩:=hp
  have hr':=run_br2 hr
  generalize hW:wyE id M lv c nm s wt di=w at hr'
  refine ⟨by rw[hr']; cases bdR ws w i ((ws.length:Int)-i).toNat <;> simp,?_⟩
  have hWL:wL w=M:=by rw[<- hW]; rfl
  rw[show shV9.put ([.i a,.i i],[.l fa es,.l fb bs,.l f ws,.l fd ds,.i id,.l false M,.i lv,.s c,.s nm,.b s,.i wt,.i di])=shV9.put (lV9 a i fa es fb bs f ws fd ds w) by rw[<- hW]; rfl,qV9]
  have hb:=okB_len h7
  by_cases hi:i<(ws.length:Int)
  ·obtain ⟨q,hq⟩:∃ q,((ws.length:Int)-i).toNat=q+1:=⟨((ws.length:Int)-i).toNat-1,by omega⟩
   have hq2:((ws.length:Int)-(i+1)).toNat=q:=by omega
   rw[hq] at hr'
   simp only[bdR] at hr'
   have he:An (wL (ws.getD i.toNat .any))=true:=okB_at h7 h1 hi
   rw[decide_eq_true hi,cond_true,Am h1 hi,cond_true,cond_true,W_id (n:=i+1) (by omega) (by omega),he,hWL,show An M=true from decide_eq_true h8]
   have e0:odB ws w i=(wDs (ws.getD i.toNat .any) != wDs w):=rfl
   rw[e0] at hr'
   have nx:r=(bif bdR ws w (i+1) q then rV9 a fa es fb bs f ws fd ds w else xV9 a fa es fb bs f ws fd ds w) ->
     ∃ s',some (PX.normal,shV9.put (lV9 a (i+1) fa es fb bs f ws fd ds w))=some (PX.normal,shV9.put s')/\pV9 s'=true/\mV9 s'<mV9 ([.i a,.i i],[.l fa es,.l fb bs,.l f ws,.l fd ds,.i id,.l false M,.i lv,.s c,.s nm,.b s,.i wt,.i di])/\(fV9 s').run=some r:=fun hA=>by
    subst hW
    refine ⟨lV9 a (i+1) fa es fb bs f ws fd ds (wyE id M lv c nm s wt di),rfl,by simp only[pV9,Bool.and_eq_true,decide_eq_true_eq]; exact ⟨by omega,h7,h8⟩,by simp only[mV9]; omega,?_⟩
    rw[hA]
    show (fV9 ([.i a,.i (i+1)],[.l fa es,.l fb bs,.l f ws,.l fd ds,.i id,.l false M,.i lv,.s c,.s nm,.b s,.i wt,.i di])).run=_
    simp only[fV9,hq2]
    cases bdR ws (wyE id M lv c nm s wt di) (i+1) q <;> rfl
   cases hd:(wDs (ws.getD i.toNat .any) != wDs w)
   ·rw[hd,Bool.false_and,Bool.false_or] at hr'
    exact .inr (nx hr')
   ·cases hj:jnW (ws.getD i.toNat .any) w
    ·rw[hd,hj,Bool.and_false,Bool.false_or] at hr'
     exact .inr (nx hr')
    ·rw[hd,hj] at hr'
     exact .inl (by rw[hr']; rfl)
  ·rw[decide_eq_false hi]
   rw[show ((ws.length:Int)-i).toNat=0 by omega] at hr'
   exact .inl (by rw[hr']; rfl)
 ·cases hp
noncomputable def NRn:Ad:=NRm.addW 38 8 [2,5,6,7] [] shV9 pV9 fV9
theorem okNRn:Ab Tryz.prog NRn.env:=
 okNRm.addW (n:=60) Tryz.func38 (show Tryz.f38.body=some (bod Tryz.f38) by kernel_rfl) (show (loops (bod Tryz.f38)).filter (fun b=>rid b==8)=[Ao Tryz.f38 8] by kernel_rfl) [2,5,6,7] [2,4,5,6] [] shV9 mV9 sV9
def nmA (os:List PV) (w:PV):Int->Nat->Bool
 | _,0=>false
 | i,n+1=>((wNm (os.getD i.toNat .any)).toList==(wNm w).toList)||nmA os w (i+1) n
theorem qW9n (g:Bool) (os:List PV) (i:Int) (fa:Bool) (es:List PV) (fb:Bool) (bs:List PV) (f:Bool) (ws:List PV) (fd:Bool) (ds:List PV) (w:PV):Al Tryz.prog NRn 60 38 (Ao Tryz.f38 19) [6,10,11] [4] (shW9.put (lW9 g os i fa es fb bs f ws fd ds w)).1 (shW9.put (lW9 g os i fa es fb bs f ws fd ds w)).2 =
 bif decide (i<(os.length:Int)) then bif inr os i then bif (wNm (os.getD i.toNat .any)).toList==(wNm w).toList then some (.ret,tm 80 [(4,iv 0)],hV9 fa es fb bs f ws fd ds w) else some (.normal,shW9.put (lW9 g os (W (i+1)) fa es fb bs f ws fd ds w)) else none
 else some (.exit 2,tm 80 [],hV9 fa es fb bs f ws fd ds w):=by kernel_rfl
def pW9:LS->Bool
 | ([.l _ os,.i i],[.l _ _,.l _ _,.l _ _,.l _ _,.i _,.l _ _,.i _,.s _,.s _,.b _,.i _,.i _])=>decide (0<=i)&&decide (os.length<=1000)
 | _=>false
noncomputable def fW9:LS->DT (PX × List PV × List Row)
 | ([.l _ os,.i i],[.l fa es,.l fb bs,.l f ws,.l fd ds,.i id,.l false M,.i lv,.s c,.s nm,.b s,.i wt,.i di]) =>
  .br (nmA os (wyE id M lv c nm s wt di) i ((os.length:Int)-i).toNat) (.leaf (.ret,tm 80 [(4,iv 0)],hV9 fa es fb bs f ws fd ds (wyE id M lv c nm s wt di))) (.leaf (.exit 2,tm 80 [],hV9 fa es fb bs f ws fd ds (wyE id M lv c nm s wt di)))
 | _=>.no
def mW9:LS->Nat
 | ([.l _ os,.i i],[.l _ _,.l _ _,.l _ _,.l _ _,.i _,.l _ _,.i _,.s _,.s _,.b _,.i _,.i _])=>((os.length:Int)-i).toNat
 | _=>0
theorem sW9:∀ s r,pW9 s=true->(fW9 s).run=some r->r.1 ≠ .normal/\(Al Tryz.prog NRn 60 38 (Ao Tryz.f38 19) [6,10,11] [4] (shW9.put s).1 (shW9.put s).2=some r \/
   ∃ s',Al Tryz.prog NRn 60 38 (Ao Tryz.f38 19) [6,10,11] [4] (shW9.put s).1 (shW9.put s).2=some (.normal,shW9.put s')/\pW9 s'=true/\mW9 s'<mW9 s/\(fW9 s').run=some r):=by
 intro t r hp hr
 unfold pW9 at hp; split at hp
 ·rename_i g os i fa es fb bs f ws fd ds id fM M lv c nm s wt di
  cases fM with
  | true=>cases hr
  | false =>
  simp only[Bool.and_eq_true,decide_eq_true_eq] at hp
  obtain ⟨h1,h7⟩:=hp
  have hr':=run_br2 hr
  refine ⟨by rw[hr']; cases nmA os (wyE id M lv c nm s wt di) i ((os.length:Int)-i).toNat <;> simp,?_⟩
  rw[show shW9.put ([.l g os,.i i],[.l fa es,.l fb bs,.l f ws,.l fd ds,.i id,.l false M,.i lv,.s c,.s nm,.b s,.i wt,.i di])=shW9.put (lW9 g os i fa es fb bs f ws fd ds (wyE id M lv c nm s wt di)) from rfl,qW9n]
  by_cases hi:i<(os.length:Int)
  ·obtain ⟨q,hq⟩:∃ q,((os.length:Int)-i).toNat=q+1:=⟨((os.length:Int)-i).toNat-1,by omega⟩
   have hq2:((os.length:Int)-(i+1)).toNat=q:=by omega
   rw[hq] at hr'
   simp only[nmA] at hr'
   rw[decide_eq_true hi,cond_true,Am h1 hi,cond_true,W_id (n:=i+1) (by omega) (by omega)]
   cases hd:((wNm (os.getD i.toNat .any)).toList==(wNm (wyE id M lv c nm s wt di)).toList)
   ·rw[hd,Bool.false_or] at hr'
    refine .inr ⟨lW9 g os (i+1) fa es fb bs f ws fd ds (wyE id M lv c nm s wt di),rfl,by simp only[pW9,Bool.and_eq_true,decide_eq_true_eq]; exact ⟨by omega,h7⟩,by simp only[mW9]; omega,?_⟩
    rw[hr']
    show (fW9 ([.l g os,.i (i+1)],[.l fa es,.l fb bs,.l f ws,.l fd ds,.i id,.l false M,.i lv,.s c,.s nm,.b s,.i wt,.i di])).run=_
    simp only[fW9,hq2]
    cases nmA os (wyE id M lv c nm s wt di) (i+1) q <;> rfl
   ·rw[hd] at hr'
    exact .inl (by rw[hr']; rfl)
  ·rw[decide_eq_false hi]
   rw[show ((os.length:Int)-i).toNat=0 by omega] at hr'
   exact .inl (by rw[hr']; rfl)
 ·cases hp
noncomputable def NRo:Ad:=NRn.addW 38 19 [6,10,11] [] shW9 pW9 fW9
theorem okNRo:Ab Tryz.prog NRo.env:=
 okNRn.addW (n:=60) Tryz.func38 (show Tryz.f38.body=some (bod Tryz.f38) by kernel_rfl) (show (loops (bod Tryz.f38)).filter (fun b=>rid b==19)=[Ao Tryz.f38 19] by kernel_rfl) [6,10,11] [4] [] shW9 mW9 sW9
end Go.Hn
/- Thin: the reference's Can as a plain function, and as a contract. -/
namespace Go.Hn
open Go.Hx Go.Hg Go.Proofs
abbrev ltN (ws:List PV):Nat:=((ws.length:Int)-0).toNat
noncomputable def caR (fa:Bool) (ea:List PV) (fb:Bool) (eb:List PV) (f:Bool) (ws:List PV) (fd:Bool) (ed:List PV) (a:Int) (e:PV):Option PV:=
 bif decide (wDs e<1) then some (iv 25) else
 bif pV9 (lV9 a 0 fa ea fb eb f ws fd ed e) then bif bdR ws (nrE e) 0 (ltN ws) then some (iv 25) else
 bif decide (ws.length<=1000)&&(decide (0<=a)&&decide (a<(ws.length:Int))) then bif okB (owA ws a)&&okWo (owA ws a) (cnA ws a) then bif rbB (owA ws a) (cnA ws a) then some (iv 23) else
 bif (wNm e).toList==(ByteArray.mk #[]).toList then some (iv 0) else
 bif okWo (owA ws a) (cnA ws a) then bif pW9 (lW9 false ((owA ws a).eraseIdx (cnA ws a).toNat) 0 fa ea fb eb f ws fd ed e) then
  bif nmA ((owA ws a).eraseIdx (cnA ws a).toNat) (nrE e) 0 (ltN ((owA ws a).eraseIdx (cnA ws a).toNat)) then some (iv 0) else some (iv 24) else none else none else none else none else none
theorem qCa0 (fa:Bool) (ea:List PV) (fb:Bool) (eb:List PV) (f:Bool) (ws:List PV) (fd:Bool) (ed:List PV) (id:Int):Ah Tryz.prog NRo 60 38 [.agg [.Ac fa 120 ea,.Ac fb 124 eb,.Ac f 44 ws,.Ac fd 68 ed],iv id] =
 bif An ws then bif decide (fiW ws id 0 ws.length<0) then some (iv 5) else bif inr ws (fiW ws id 0 ws.length) then caR fa ea fb eb f ws fd ed (fiW ws id 0 ws.length) (ws.getD (fiW ws id 0 ws.length).toNat .any) else none else none:=by kernel_rfl
end Go.Hn
/- Thin: maps of whole numbers; numbered ways (out of HnTr by gencz.py). -/
namespace Go.Hn
open Go.Hx Go.Hg Go.Proofs
theorem keq_iv (a b:Int):keq (iv a) (iv b)=(a==b):=by
 show ((a==b)&&true)=_
 rw[Bool.and_true]
def kIv (D:List (PV × PV)):Prop:=∀ p ∈ D,∃ n:Int,p.1=iv n
theorem kIv_nil:kIv []:=fun p h=>by cases h
theorem kIv_put {a:Int} {v:PV}:∀ {D:List (PV × PV)},kIv D->kIv (mput D (iv a) v)
 | [],_=>fun p h=>by
  rcases List.mem_cons.1 h with rfl | h
  ·exact ⟨a,rfl⟩
  ·cases h
 | (x,w)::D,hk=>fun p h=>by
  unfold mput at h
  cases e:keq (iv a) x with
  | true =>
   rw[e,cond_true] at h
   rcases List.mem_cons.1 h with rfl | h
   ·exact ⟨a,rfl⟩
   ·exact hk p (.tail _ h)
  | false =>
   rw[e,cond_false] at h
   rcases List.mem_cons.1 h with rfl | h
   ·exact hk _ (.head _)
   ·exact kIv_put (fun q hq=>hk q (.tail _ hq)) p h
theorem mgI_get {a b:Int} {v z:PV}:∀ {D:List (PV × PV)},kIv D->mget z (mput D (iv a) v) (iv b)=bif b==a then v else mget z D (iv b)
 | [],_=>by unfold mput mget; rw[keq_iv]; rfl
 | (x,w)::D,hk=>by
  obtain ⟨n,hn⟩:=hk _ (.head _)
  have hn:x=iv n:=hn
  subst hn
  unfold mput
  rw[keq_iv]
  have ih:=mgI_get (a:=a) (b:=b) (v:=v) (z:=z) (fun q hq=>hk q (.tail _ hq):kIv D)
  by_cases e:a=n
  ·subst e
   rw[beq_self_eq_true,cond_true]
   simp only[mget,keq_iv]
   cases b==a <;> rfl
  ·rw[beq_eq_false_iff_ne.2 e,cond_false]
   simp only[mget,keq_iv]
   rw[ih]
   by_cases e2:b=n
   ·subst e2
    rw[beq_self_eq_true,cond_true,cond_true,beq_eq_false_iff_ne.2 (fun h=>e h.symm),cond_false]
   ·rw[beq_eq_false_iff_ne.2 e2,cond_false,cond_false]
theorem mhI_put {a b:Int} {v:PV}:∀ {D:List (PV × PV)},kIv D->mhas (mput D (iv a) v) (iv b)=((b==a)||mhas D (iv b))
 | [],_=>by unfold mput mhas; rw[keq_iv]; rfl
 | (x,w)::D,hk=>by
  obtain ⟨n,hn⟩:=hk _ (.head _)
  have hn:x=iv n:=hn
  subst hn
  unfold mput
  rw[keq_iv]
  have ih:=mhI_put (a:=a) (b:=b) (v:=v) (fun q hq=>hk q (.tail _ hq):kIv D)
  by_cases e:a=n
  ·subst e
   rw[beq_self_eq_true,cond_true]
   simp only[mhas,keq_iv]
   cases b==a <;> simp
  ·rw[beq_eq_false_iff_ne.2 e,cond_false]
   simp only[mhas,keq_iv]
   rw[ih]
   cases b==n <;> cases b==a <;> simp
theorem gp1_get {l:List Int} {v:Int}:∀ (n k:Nat) {D:List (PV × PV)},kIv D->k+n=l.length ->
  kIv (gp1 (ivs l) v (k:Int) n D)/\∀ z b,mget z (gp1 (ivs l) v (k:Int) n D) (iv b)=if b ∈ l.drop k then iv v else mget z D (iv b)
 | 0,k,D,hk,h=>⟨hk,fun z b=>by rw[List.drop_of_length_le (by omega),if_neg (by simp)]; rfl⟩
 | n+1,k,D,hk,h=>by
  have hlt:k<l.length:=by omega
  obtain ⟨e1,e2⟩:=gp1_get (l:=l) (v:=v) n (k+1) (D:=mput D (iv l[k]) (iv v)) (kIv_put hk) (by omega)
  unfold gp1
  rw[nI_ivs l hlt,show (k:Int)+1=((k+1:Nat):Int) by omega]
  refine ⟨e1,fun z b => ?_⟩
  rw[e2,mgI_get hk,List.drop_eq_getElem_cons hlt]
  by_cases hb:b ∈ l.drop (k+1)
  ·rw[if_pos hb,if_pos (.tail _ hb)]
  ·rw[if_neg hb]
   by_cases e:b=l[k]
   ·rw[beq_iff_eq.2 e,cond_true,if_pos (by rw[e]; exact .head _)]
   ·rw[beq_eq_false_iff_ne.2 e,cond_false,if_neg]
    intro hm
    rcases List.mem_cons.1 hm with h | h
    ·exact e h
    ·exact hb h
theorem gpA_get {G:List PV} {L:List (List Int)} (h:G.map eL=L.map ivs):∀ (n i:Nat) {D:List (PV × PV)},kIv D->i+n=L.length ->
  (∀ z b,(∀ j (hj:j<L.length),i<=j->b ∉ L[j])->mget z (gpA G (i:Int) n D) (iv b)=mget z D (iv b)) /\
  (L.flatten.Nodup->∀ z b j (hj:j<L.length),i<=j->b ∈ L[j]->mget z (gpA G (i:Int) n D) (iv b)=iv (j:Int))
 | 0,i,D,_,hl=>⟨fun z b _=>rfl,fun _ z b j hj h1=>by omega⟩
 | n+1,i,D,hk,hl=>by
  have hi:i<L.length:=by omega
  have hg:gEl G (i:Int)=ivs L[i]:=by unfold gEl; rw[Int.toNat_natCast]; exact gAt h hi
  unfold gpA
  rw[hg,show (i:Int)+1=((i+1:Nat):Int) by omega,show (ivs L[i]).length=L[i].length from List.length_map ..]
  obtain ⟨k1,k2⟩:=gp1_get (l:=L[i]) (v:=(i:Int)) L[i].length 0 hk (by omega)
  rw[List.drop_zero] at k2
  obtain ⟨a1,a2⟩:=gpA_get h n (i+1) k1 (by omega)
  refine ⟨fun z b hb => ?_,fun hnd z b j hj h1 hm => ?_⟩
  ·refine (a1 z b fun j hj h1=>hb j hj (by omega)).trans ?_
   refine (k2 z b).trans ?_
   rw[if_neg (hb i hi (Nat.le_refl _))]
  ·by_cases e:j=i
   ·subst e
    refine (a1 z b fun j' hj' h1' hm' => ?_).trans ((k2 z b).trans (by rw[if_pos hm]))
    have:=flat_uniq hnd hj hj' hm hm'
    omega
   ·exact a2 hnd z b j hj (by omega) hm
theorem nuW_get:∀ {es:List PV} {k:Int} {j:Nat} (h:j<(nuW k es).length),(nuW k es)[j]=nbE (k+j) (es[j]'(by rw[nuW_len] at h; exact h))
 | [],_,_,h=>by simp[nuW] at h
 | e::es,k,0,h=>by simp[nuW]
 | e::es,k,j+1,h=>by
  simp only[nuW,List.getElem_cons_succ]
  rw[nuW_get]
  congr 1
  omega
theorem nuW_ids:∀ (es:List PV) (k:Int),(nuW k es).map wI=(List.range es.length).map fun j:Nat=>k+(j:Int):=fun es k=>by
 refine List.ext_getElem (by simp[nuW_len]) fun j h1 h2 => ?_
 rw[List.getElem_map,List.getElem_map,nuW_get (by simpa using h1),List.getElem_range]
 rfl
theorem nuW_nodup (es:List PV) (k:Int):((nuW k es).map wI).Nodup:=by
 rw[nuW_ids,List.nodup_iff_pairwise_ne,List.pairwise_map]
 refine List.Pairwise.imp (fun {a b} hab => ?_) (List.nodup_iff_pairwise_ne.1 List.nodup_range)
 omega
theorem stA3_nb (i:Int) (e:PV):Ap (nbE i e)=Ap e:=rfl
theorem stZ3_nb (i:Int) (e:PV):stZ3 (nbE i e)=stZ3 e:=rfl
end Go.Hn
/- Thin (out of HnTs by gencz.py): a connection breaks exactly if two other ways were connected and are so no more. -/
namespace Go.Hn
open Go.Hx Go.Hg Go.Proofs
theorem mgI_put {A:List (PV × PV)} (hA:kIv A) (a v b:Int):mgI (mput A (iv a) (iv v)) b=bif b==a then v else mgI A b:=by
 unfold mgI
 rw[mgI_get hA]
 cases b==a <;> rfl
theorem brk_iff {a:Int} {D E:List (PV × PV)}:∀ (n:Nat) (i:Int) {A:List (PV × PV)},kIv A ->
  (brk a D E i n A=false ↔ (∀ j,i<=j->j<i+n->j ≠ a->mhas A (iv (mgI D j))=true->mgI A (mgI D j)=mgI E (koI j a)) /\
   ∀ j k,i<=j->j<i+n->j ≠ a->i<=k->k<i+n->k ≠ a->mgI D j=mgI D k->mgI E (koI j a)=mgI E (koI k a))
 | 0,i,A,_=>⟨fun _=>⟨fun j h1 h2=>by omega,fun j k h1 h2=>by omega⟩,fun _=>rfl⟩
 | n+1,i,A,hA=>by
  unfold brk
  by_cases e:i=a
  ·rw[beq_iff_eq.2 e,cond_true,brk_iff n (i+1) hA]
   constructor
   ·rintro ⟨h1,h2⟩
    exact ⟨fun j g1 g2 g3=>h1 j (by omega) (by omega) g3,fun j k g1 g2 g3 g4 g5 g6=>h2 j k (by omega) (by omega) g3 (by omega) (by omega) g6⟩
   ·rintro ⟨h1,h2⟩
    exact ⟨fun j g1 g2 g3=>h1 j (by omega) (by omega) g3,fun j k g1 g2 g3 g4 g5 g6=>h2 j k (by omega) (by omega) g3 (by omega) (by omega) g6⟩
  ·rw[beq_eq_false_iff_ne.2 e,cond_false,Bool.or_eq_false_iff,brk_iff n (i+1) (kIv_put hA)]
   simp only[mhI_put hA,mgI_put hA,Bool.and_eq_false_iff,bne_eq_false_iff_eq]
   constructor
   ·rintro ⟨h0,h1,h2⟩
    have key:∀ j,i+1<=j->j<i+1+n->j ≠ a->mgI D j=mgI D i->mgI E (koI j a)=mgI E (koI i a):=fun j g1 g2 g3 g4=>by
     have:=h1 j g1 g2 g3 (by rw[beq_iff_eq.2 g4]; rfl)
     rw[beq_iff_eq.2 g4,cond_true] at this
     exact this.symm
    refine ⟨fun j g1 g2 g3 g4 => ?_,fun j k g1 g2 g3 g4 g5 g6 g7 => ?_⟩
    ·by_cases ej:j=i
     ·subst ej
      rcases h0 with h0 | h0
      ·rw[h0] at g4; cases g4
      ·exact h0
     ·by_cases ed:mgI D j=mgI D i
      ·rw[key j (by omega) (by omega) g3 ed,ed]
       rw[ed] at g4
       rcases h0 with h0 | h0
       ·rw[h0] at g4; cases g4
       ·exact h0
      ·have:=h1 j (by omega) (by omega) g3 (by rw[g4,Bool.or_true])
       rw[beq_eq_false_iff_ne.2 ed,cond_false] at this
       exact this
    ·by_cases ej:j=i
     ·by_cases ek:k=i
      ·rw[ej,ek]
      ·rw[ej]; exact (key k (by omega) (by omega) g6 (by rw[<- g7,ej])).symm
     ·by_cases ek:k=i
      ·rw[ek]; exact key j (by omega) (by omega) g3 (by rw[g7,ek])
      ·exact h2 j k (by omega) (by omega) g3 (by omega) (by omega) g6 g7
   ·rintro ⟨h1,h2⟩
    refine ⟨?_,fun j g1 g2 g3 g4 => ?_,fun j k g1 g2 g3 g4 g5 g6 g7=>h2 j k (by omega) (by omega) g3 (by omega) (by omega) g6 g7⟩
    ·cases hm:mhas A (iv (mgI D i)) with
     | false=>exact .inl rfl
     | true=>exact .inr (h1 i (Int.le_refl _) (by omega) e hm)
    ·by_cases ed:mgI D j=mgI D i
     ·rw[beq_iff_eq.2 ed,cond_true]
      exact h2 i j (Int.le_refl _) (by omega) e (by omega) (by omega) g3 ed.symm
     ·rw[beq_eq_false_iff_ne.2 ed,cond_false]
      rw[beq_eq_false_iff_ne.2 ed,Bool.false_or] at g4
      exact h1 j (by omega) (by omega) g3 g4
end Go.Hn
/- Thin: plain law: two ways are in one group exactly if they are connected by joints. -/
namespace Go.Hn
open Go.Hx Go.Hg Go.Proofs
theorem grpG_facts {ws:List PV} (h:okWg ws=true):∃ (R:S3->S3) (K:List Kd),Top (ws.filter neB) R/\K.Pairwise oneK/\(∀ a,(∃ x,(some a,x) ∈ K) ↔ ∃ e ∈ ws.filter neB,R (Ap e)=a)/\sinK K=(ws.filter fun e=>emB (wL e)).map wI /\
  (grpG ws).map eL=(srtG (K.map fun k=>srtN (idsK R (ws.filter neB) k))).map ivs:=by
 unfold grpG
 cases ho:okW ws with
 | false =>
  unfold okWg at h
  rw[ho,Bool.false_or] at h
  obtain ⟨R,K,t,hA,hm,hs,_,_,_,hg⟩:=grp_facts3 h
  exact ⟨R,K,t,hA,hm,hs,hg⟩
 | true =>
  obtain ⟨h1,h2⟩:=okW_iff ho
  obtain ⟨R,A,t,hA,hm,_,_,_,_,hg⟩:=grp_facts ho
  have hne:∀ e ∈ ws,emB (wL e)=false:=fun e he=>by
   have:=stB_len (h2 e he)
   unfold emB
   exact this
  have hf:ws.filter neB=ws:=List.filter_eq_self.2 fun e he=>by unfold neB; rw[hne e he]; rfl
  have hf2:(ws.filter fun e=>emB (wL e))=[]:=List.filter_eq_nil_iff.2 fun e he=>by rw[hne e he]; exact Bool.false_ne_true
  refine ⟨R,A.map fun a=>((some a,0):Kd),by rw[hf]; exact t,?_,fun a => ?_,?_,?_⟩
  ·rw[List.pairwise_map]
   refine (List.nodup_iff_pairwise_ne.1 hA).imp fun {a b} hab => ?_
   intro c h1 h2
   injection h1 with h1
   injection h2 with h2
   exact hab (h1.trans h2.symm)
  ·rw[hf,<- hm]
   constructor
   ·rintro ⟨x,hx⟩
    obtain ⟨b,hb,e⟩:=List.mem_map.1 hx
    injection e with e _
    injection e with e
    exact e ▸ hb
   ·exact fun ha=>⟨0,List.mem_map.2 ⟨a,ha,rfl⟩⟩
  ·rw[hf2]
   unfold sinK
   rw[List.filterMap_map]
   exact List.filterMap_eq_nil_iff.2 fun a _=>rfl
  ·rw[List.map_map,hf]
   exact hg
theorem jnW_ne {e e':PV} (h:jnW e e'=true):emB (wL e)=false/\emB (wL e')=false:=by
 unfold jnW jn at h
 simp only[Bool.and_eq_true,Bool.not_eq_true'] at h
 exact ⟨h.1,h.2.1⟩
theorem kd_iff {ws:List PV} (hI:(ws.map wI).Nodup) {R:S3->S3} {K:List Kd} (hs:sinK K=(ws.filter fun e=>emB (wL e)).map wI) {k:Kd} (hk:k ∈ K) {e:PV} (he:e ∈ ws):
  wI e ∈ idsK R (ws.filter neB) k ↔ (neB e=true/\k.1=some (R (Ap e)))\/(neB e=false/\k=(none,wI e)):=by
 obtain ⟨o,x⟩:=k
 cases o with
 | some a =>
  show wI e ∈ idsL R (ws.filter neB) a ↔ _
  rw[mem_ids]
  constructor
  ·rintro ⟨d,hd,h1,h2⟩
   obtain ⟨hd1,hd2⟩:=List.mem_filter.1 hd
   have:=ids_inj hI hd1 he h2
   subst this
   exact .inl ⟨hd2,by rw[h1]⟩
  ·rintro (⟨h1,h2⟩ | ⟨_,h2⟩)
   ·injection h2 with h2
    exact ⟨e,List.mem_filter.2 ⟨he,h1⟩,h2.symm,rfl⟩
   ·cases h2
 | none =>
  show wI e ∈ [x] ↔ _
  rw[List.mem_singleton]
  have hx:x ∈ sinK K:=List.mem_filterMap.2 ⟨_,hk,rfl⟩
  rw[hs] at hx
  obtain ⟨d,hd,h2⟩:=List.mem_map.1 hx
  obtain ⟨hd1,hd2⟩:=List.mem_filter.1 hd
  constructor
  ·intro h
   have:=ids_inj hI hd1 he (h2.trans h.symm)
   subst this
   exact .inr ⟨by unfold neB; rw[hd2]; rfl,by rw[h]⟩
  ·rintro (⟨_,h3⟩ | ⟨_,h3⟩)
   ·cases h3
   ·injection h3 with _ h3
    exact h3.symm
theorem kd_nodup {ws:List PV} (hI:(ws.map wI).Nodup) {R:S3->S3} {K:List Kd} (hA:K.Pairwise oneK) (hs:sinK K=(ws.filter fun e=>emB (wL e)).map wI):(K.map fun k=>srtN (idsK R (ws.filter neB) k)).flatten.Nodup:=by
 have hsub:∀ p:PV->Bool,((ws.filter p).map wI).Nodup:=fun p=>hI.sublist ((List.filter_sublist).map _)
 unfold List.Nodup
 rw[List.pairwise_flatten]
 constructor
 ·intro l hl
  obtain ⟨k,_,rfl⟩:=List.mem_map.1 hl
  refine ((srtN_perm _).nodup_iff).2 ?_
  obtain ⟨o,x⟩:=k
  cases o with
  | some a=>exact (hsub neB).sublist ((List.filter_sublist).map _)
  | none=>exact List.nodup_iff_pairwise_ne.2 (List.pairwise_singleton ..)
 ·rw[List.pairwise_map]
  have hS:(sinK K).Nodup:=by rw[hs]; exact hsub _
  unfold sinK List.Nodup at hS
  rw[List.pairwise_filterMap] at hS
  refine (List.Pairwise.and_mem.1 (List.Pairwise.and hA hS)).imp fun {k l} ⟨hk,hl,h1,h2⟩ => ?_
  intro x hx y hy hxy
  subst hxy
  replace hx:=(srtN_perm _).mem_iff.1 hx
  replace hy:=(srtN_perm _).mem_iff.1 hy
  have hw:∃ e ∈ ws,wI e=x:=by
   obtain ⟨o,z⟩:=k
   cases o with
   | some a =>
    obtain ⟨d,hd,_,h3⟩:=mem_ids.1 hx
    exact ⟨d,(List.mem_filter.1 hd).1,h3⟩
   | none =>
    have hx:x ∈ [z]:=hx
    rw[List.mem_singleton] at hx
    subst hx
    have hz:x ∈ sinK K:=List.mem_filterMap.2 ⟨_,hk,rfl⟩
    rw[hs] at hz
    obtain ⟨d,hd,h3⟩:=List.mem_map.1 hz
    exact ⟨d,(List.mem_filter.1 hd).1,h3⟩
  obtain ⟨e,he,rfl⟩:=hw
  rcases (kd_iff hI hs hk he).1 hx with ⟨a1,a2⟩ | ⟨a1,a2⟩ <;> rcases (kd_iff hI hs hl he).1 hy with ⟨b1,b2⟩ | ⟨b1,b2⟩
  ·exact h1 _ a2 b2
  ·rw[a1] at b1; cases b1
  ·rw[a1] at b1; cases b1
  ·subst a2; subst b2
   exact h2 (wI e) rfl (wI e) rfl rfl
end Go.Hn
/- Thin: plain law: two ways are in one group exactly if they are connected by joints; breaks is the reference's. -/
namespace Go.Hn
open Go.Hx Go.Hg Go.Proofs
theorem neB_nb (i:Int) (e:PV):neB (nbE i e)=neB e:=rfl
theorem cn_iff {ws:List PV} (hst:∀ e ∈ ws,emB (wL e)=true\/stB (wL e)=true) {R:S3->S3} (t:Top (ws.filter neB) R) {i j:Nat} (hi:i<ws.length) (hj:j<ws.length):
  (i=j\/(neB ws[i]=true/\neB ws[j]=true/\R (Ap ws[i])=R (Ap ws[j]))) ↔ Cn ws i j:=by
 have hS:∀ e ∈ ws,neB e=true->stB (wL e)=true:=fun e he hn=>by
  rcases hst e he with h | h
  ·unfold neB at hn; rw[h] at hn; cases hn
  ·exact h
 have hJ:∀ k m (hk:k<ws.length) (hm:m<ws.length),neB ws[k]=true->neB ws[m]=true->(jnE ws (k:Int) (m:Int)=true ↔ Jn ws[k] ws[m]):=fun k m hk hm h1 h2=>by
  unfold jnE
  rw[Int.toNat_natCast,Int.toNat_natCast,List.getD_eq_getElem?_getD,List.getD_eq_getElem?_getD,List.getElem?_eq_getElem hk,List.getElem?_eq_getElem hm]
  exact jn_iff (hS _ (List.getElem_mem hk) h1) (hS _ (List.getElem_mem hm) h2)
 have hN:∀ k m (hk:k<ws.length) (hm:m<ws.length),jnE ws (k:Int) (m:Int)=true->neB ws[k]=true/\neB ws[m]=true:=fun k m hk hm h=>by
  unfold jnE at h
  rw[Int.toNat_natCast,Int.toNat_natCast,List.getD_eq_getElem?_getD,List.getD_eq_getElem?_getD,List.getElem?_eq_getElem hk,List.getElem?_eq_getElem hm,Option.getD_some,Option.getD_some] at h
  obtain ⟨h1,h2⟩:=jnW_ne h
  unfold neB
  exact ⟨by show (!emB (wL ws[k]))=true; rw[h1]; rfl,by show (!emB (wL ws[m]))=true; rw[h2]; rfl⟩
 constructor
 ·rintro (rfl | ⟨h1,h2,h3⟩)
  ·exact .refl
  ·have hl:=t.least (fun s=>∃ (m:Nat) (hm:m<ws.length),Cn ws i m/\neB ws[m]=true/\(s=Ap ws[m]\/s=stZ3 ws[m])) fun e he=>by
    obtain ⟨he1,he2⟩:=List.mem_filter.1 he
    obtain ⟨q,hq,rfl⟩:=List.mem_iff_getElem.1 he1
    constructor
    ·rintro ⟨m,hm,c,nm,h⟩
     refine ⟨q,hq,.step c hq ((hJ m q hm hq nm he2).2 ?_),he2,.inr rfl⟩
     rcases h with h | h
     ·exact .inl h.symm
     ·exact .inr (.inr (.inl h.symm))
    ·rintro ⟨m,hm,c,nm,h⟩
     refine ⟨q,hq,.step c hq ((hJ m q hm hq nm he2).2 ?_),he2,.inl rfl⟩
     rcases h with h | h
     ·exact .inr (.inl h.symm)
     ·exact .inr (.inr (.inr h.symm))
   have a1:=(hl (Ap ws[i])).2 ⟨i,hi,.refl,h1,.inl rfl⟩
   rw[h3] at a1
   obtain ⟨m,hm,c,nm,h⟩:=(hl (Ap ws[j])).1 a1
   refine .step c hj ((hJ m j hm hj nm h2).2 ?_)
   rcases h with h | h
   ·exact .inl h.symm
   ·exact .inr (.inr (.inl h.symm))
 ·intro c
  have:∀ k,Cn ws i k->∃ hk:k<ws.length,(i=k\/(neB ws[i]=true/\neB ws[k]=true/\R (Ap ws[i])=R (Ap ws[k]))):=fun k ck=>by
   induction ck with
   | refl=>exact ⟨hi,.inl rfl⟩
   | @step k m c1 hm hj2 ih =>
    obtain ⟨hk,ih⟩:=ih
    refine ⟨hm,.inr ?_⟩
    obtain ⟨n1,n2⟩:=hN k m hk hm hj2
    have hr:R (Ap ws[k])=R (Ap ws[m]):=t.join (List.mem_filter.2 ⟨List.getElem_mem hk,n1⟩) (List.mem_filter.2 ⟨List.getElem_mem hm,n2⟩) ((hJ k m hk hm n1 n2).1 hj2)
    rcases ih with e | ⟨b1,_,b3⟩
    ·subst e; exact ⟨n1,n2,hr⟩
    ·exact ⟨b1,n2,b3.trans hr⟩
  exact (this j c).2
theorem top_of_nu {ws:List PV} {R:S3->S3} (t:Top ((nuW 0 ws).filter neB) R):Top (ws.filter neB) R where
 one:=fun e he=>by
  obtain ⟨he1,he2⟩:=List.mem_filter.1 he
  obtain ⟨j,hj,rfl⟩:=List.mem_iff_getElem.1 he1
  have hj':j<(nuW 0 ws).length:=by rw[nuW_len]; exact hj
  have hg:=nuW_get hj'
  have:=t.one (nuW 0 ws)[j] (List.mem_filter.2 ⟨List.getElem_mem hj',by rw[hg,neB_nb]; exact he2⟩)
  rw[hg] at this
  exact this
 least:=fun f hf=>t.least f fun e he=>by
  obtain ⟨he1,he2⟩:=List.mem_filter.1 he
  obtain ⟨j,hj,rfl⟩:=List.mem_iff_getElem.1 he1
  have hg:=nuW_get hj
  rw[hg] at he2 ⊢
  rw[stA3_nb,stZ3_nb]
  rw[neB_nb] at he2
  exact hf _ (List.mem_filter.2 ⟨List.getElem_mem _,he2⟩)
theorem mg_cn {ws:List PV} (h:okWg ws=true) {i j:Nat} (hi:i<ws.length) (hj:j<ws.length):mgI (grM ws) (i:Int)=mgI (grM ws) (j:Int) ↔ Cn ws i j:=by
 have h':=nuW_okW h 0
 have hI:=nuW_nodup ws 0
 obtain ⟨R,K,t,hA,hm,hs,hg⟩:=grpG_facts h'
 rw[<- cn_iff (okWg_iff h).2 (top_of_nu t) hi hj]
 have hp:=(sortP_gr (K.map fun k=>srtN (idsK R ((nuW 0 ws).filter neB) k))).2.1
 have hnd:(srtG (K.map fun k=>srtN (idsK R ((nuW 0 ws).filter neB) k))).flatten.Nodup:=(hp.flatten.nodup_iff).2 (kd_nodup hI hA hs)
 have hlen:(grpG (nuW 0 ws)).length=(srtG (K.map fun k=>srtN (idsK R ((nuW 0 ws).filter neB) k))).length:=by have:=congrArg List.length hg; simpa using this
 have at0:∀ i (hi:i<ws.length),∃ (hi':i<(nuW 0 ws).length),wI (nuW 0 ws)[i]=(i:Int)/\neB (nuW 0 ws)[i]=neB ws[i]/\Ap (nuW 0 ws)[i]=Ap ws[i]:=fun i hi=>by
  have hi':i<(nuW 0 ws).length:=by rw[nuW_len]; exact hi
  refine ⟨hi',?_,?_,?_⟩
  ·rw[nuW_get]; show 0+(i:Int)=i; omega
  ·rw[nuW_get,neB_nb]
  ·rw[nuW_get,stA3_nb]
 have at1:∀ i (hi:i<ws.length),∃ (j:Nat) (hj:j<(srtG (K.map fun k=>srtN (idsK R ((nuW 0 ws).filter neB) k))).length) (k:Kd),k ∈ K/\mgI (grM ws) (i:Int)=j/\(srtG (K.map fun k=>srtN (idsK R ((nuW 0 ws).filter neB) k)))[j]=srtN (idsK R ((nuW 0 ws).filter neB) k) /\
   ((neB ws[i]=true/\k.1=some (R (Ap ws[i])))\/(neB ws[i]=false/\k=(none,(i:Int)))):=fun i hi=>by
  obtain ⟨hi',e1,e2,e3⟩:=at0 i hi
  have hk:∃ k ∈ K,((neB ws[i]=true/\k.1=some (R (Ap ws[i])))\/(neB ws[i]=false/\k=(none,(i:Int)))):=by
   cases hn:neB ws[i] with
   | true =>
    obtain ⟨x,hx⟩:=(hm (R (Ap ws[i]))).2 ⟨_,List.mem_filter.2 ⟨List.getElem_mem hi',by rw[e2]; exact hn⟩,by rw[e3]⟩
    exact ⟨_,hx,.inl ⟨rfl,rfl⟩⟩
   | false =>
    have:(i:Int) ∈ sinK K:=by
     rw[hs]
     refine List.mem_map.2 ⟨_,List.mem_filter.2 ⟨List.getElem_mem hi',?_⟩,e1⟩
     rw[<- e2] at hn
     unfold neB at hn
     simpa using hn
    obtain ⟨⟨o,x⟩,hk,hx⟩:=List.mem_filterMap.1 this
    cases o with
    | some a=>cases hx
    | none=>injection hx with hx; exact ⟨_,hk,.inr ⟨rfl,by rw[show x=(i:Int) from hx]⟩⟩
  obtain ⟨k,hk,hx⟩:=hk
  have hin:srtN (idsK R ((nuW 0 ws).filter neB) k) ∈ srtG (K.map fun k=>srtN (idsK R ((nuW 0 ws).filter neB) k)):=hp.mem_iff.2 (List.mem_map.2 ⟨k,hk,rfl⟩)
  obtain ⟨j,hj,e⟩:=List.mem_iff_getElem.1 hin
  refine ⟨j,hj,k,hk,?_,e,hx⟩
  have hmem:(i:Int) ∈ (srtG (K.map fun k=>srtN (idsK R ((nuW 0 ws).filter neB) k)))[j]:=by
   rw[e]
   refine (srtN_perm _).mem_iff.2 ?_
   have:=(kd_iff hI (R:=R) hs hk (List.getElem_mem hi')).2 (by rw[e1,e2,e3]; exact hx)
   rw[e1] at this
   exact this
  have:=(gpA_get hg (srtG (K.map fun k=>srtN (idsK R ((nuW 0 ws).filter neB) k))).length 0 kIv_nil (Nat.zero_add _)).2 hnd (iv 0) (i:Int) j hj (Nat.zero_le _) hmem
  unfold mgI grM
  rw[hlen]
  rw[show ((0:Nat):Int)=0 from rfl] at this
  rw[this]
  rfl
 obtain ⟨a,ha,k,hk,a1,a2,a3⟩:=at1 i hi
 obtain ⟨b,hb,l,hl,b1,b2,b3⟩:=at1 j hj
 obtain ⟨hi',i1,i2,i3⟩:=at0 i hi
 obtain ⟨hj',j1,j2,j3⟩:=at0 j hj
 have mi:(i:Int) ∈ srtN (idsK R ((nuW 0 ws).filter neB) k):=(srtN_perm _).mem_iff.2 (by
  have:=(kd_iff hI (R:=R) hs hk (List.getElem_mem hi')).2 (by rw[i1,i2,i3]; exact a3)
  rw[i1] at this
  exact this)
 have mj:(j:Int) ∈ srtN (idsK R ((nuW 0 ws).filter neB) l):=(srtN_perm _).mem_iff.2 (by
  have:=(kd_iff hI (R:=R) hs hl (List.getElem_mem hj')).2 (by rw[j1,j2,j3]; exact b3)
  rw[j1] at this
  exact this)
 constructor
 ·intro hq
  rw[a1,b1] at hq
  have:a=b:=by omega
  subst this
  rw[a2] at b2
  rw[<- b2] at mj
  have:=(kd_iff hI (R:=R) hs hk (List.getElem_mem hj')).1 (by rw[j1]; exact (srtN_perm _).mem_iff.1 mj)
  rw[j1,j2,j3] at this
  rcases a3 with ⟨c1,c2⟩ | ⟨c1,c2⟩ <;> rcases this with ⟨d1,d2⟩ | ⟨d1,d2⟩
  ·rw[c2] at d2; injection d2 with d2; exact .inr ⟨c1,d1,d2⟩
  ·rw[d2] at c2; cases c2
  ·rw[c2] at d2; cases d2
  ·rw[c2] at d2; injection d2 with _ d2; exact .inl (by omega)
 ·intro hq
  rw[a1,b1]
  have mj2:(j:Int) ∈ srtN (idsK R ((nuW 0 ws).filter neB) k):=by
   refine (srtN_perm _).mem_iff.2 ?_
   have:=(kd_iff hI (R:=R) hs hk (List.getElem_mem hj')).2 (by
    rw[j1,j2,j3]
    rcases hq with e | ⟨c1,c2,c3⟩
    ·subst e; exact a3
    ·rcases a3 with ⟨d1,d2⟩ | ⟨d1,d2⟩
     ·exact .inl ⟨c2,by rw[<- c3]; exact d2⟩
     ·rw[c1] at d1; cases d1)
   rw[j1] at this
   exact this
  have:a=b:=flat_uniq hnd ha hb (x:=(j:Int)) (by rw[a2]; exact mj2) (by rw[b2]; exact mj)
  omega
end Go.Hn
/- Thin: plain law: breaks answers as the reference's does. -/
namespace Go.Hn
open Go.Hx Go.Hg Go.Proofs
theorem rb8_iff {a:Int} {A B:List PV} {i:Int}:∀ (n:Nat) (k:Int),rb8 a A B i k n=true ↔ ∃ j,k<=j/\j<k+n/\brC a A B i j=true
 | 0,k=>⟨fun h=>(by cases h),fun ⟨j,h1,h2,_⟩=>by omega⟩
 | n+1,k=>by
  unfold rb8
  rw[Bool.or_eq_true,rb8_iff n (k+1)]
  constructor
  ·rintro (h | ⟨j,h1,h2,h3⟩)
   ·exact ⟨k,by omega,by omega,h⟩
   ·exact ⟨j,by omega,by omega,h3⟩
  ·rintro ⟨j,h1,h2,h3⟩
   by_cases e:j=k
   ·subst e; exact .inl h3
   ·exact .inr ⟨j,by omega,by omega,h3⟩
theorem rb5_iff {a:Int} {A B:List PV}:∀ (n:Nat) (i:Int),rb5 a A B i n=true ↔ ∃ j,i<=j/\j<i+n/\rb8 a A B j 0 j.toNat=true
 | 0,k=>⟨fun h=>(by cases h),fun ⟨j,h1,h2,_⟩=>by omega⟩
 | n+1,k=>by
  unfold rb5
  rw[Bool.or_eq_true,rb5_iff n (k+1)]
  constructor
  ·rintro (h | ⟨j,h1,h2,h3⟩)
   ·exact ⟨k,by omega,by omega,h⟩
   ·exact ⟨j,by omega,by omega,h3⟩
  ·rintro ⟨j,h1,h2,h3⟩
   by_cases e:j=k
   ·subst e; exact .inl h3
   ·exact .inr ⟨j,by omega,by omega,h3⟩
theorem lbN_lab {ws:List PV} {i:Nat} (h:i<ws.length):lbN (labL ws) (i:Int)=(lea ws i:Int):=by
 unfold lbN
 rw[List.getD_eq_getElem?_getD,Int.toNat_natCast,labL_at h]; rfl
def koN (a j:Nat):Nat:=if j<a then j else j-1
def upN (a i:Nat):Nat:=if i<a then i else i+1
theorem koI_nat {a j:Nat} (h:j ≠ a) (hj:j<=1000):koI (j:Int) (a:Int)=(koN a j:Int):=by
 unfold koI koN
 by_cases e:j<a
 ·rw[decide_eq_false (by omega),if_pos e]; rfl
 ·rw[decide_eq_true (by omega),if_neg e,cond_true,W_id (by omega) (by omega)]; omega
theorem upI_nat (a i:Nat):upI (i:Int) (a:Int)=(upN a i:Int):=by
 unfold upI upN
 by_cases e:i<a
 ·rw[decide_eq_false (by omega),if_pos e]; rfl
 ·rw[decide_eq_true (by omega),if_neg e,cond_true]; omega
theorem rbB_eq {ws:List PV} (h:okWg ws=true) {a:Nat} (ha:a<ws.length):rbB ws (a:Int)=brB ws (a:Int):=by
 have h6:=(okWg_iff h).1
 have hl:(ws.eraseIdx a).length=ws.length-1:=List.length_eraseIdx_of_lt ha
 have h':=okW_erase h a
 have hC:∀ i k:Nat,i<(ws.eraseIdx a).length->k<(ws.eraseIdx a).length->(brC (a:Int) (labL ws) (labL (ws.eraseIdx a)) (i:Int) (k:Int)=true ↔ Cn ws (upN a i) (upN a k)/\¬ Cn (ws.eraseIdx a) i k):=fun i k hi hk=>by
  have u1:upN a i<ws.length:=by unfold upN; split <;> omega
  have u2:upN a k<ws.length:=by unfold upN; split <;> omega
  unfold brC
  rw[upI_nat,upI_nat,lbN_lab u1,lbN_lab u2,lbN_lab hi,lbN_lab hk,Bool.and_eq_true,beq_iff_eq,bne_iff_ne,<- lea_eq u1 u2,<- lea_eq hi hk]
  constructor
  ·rintro ⟨a1,a2⟩; exact ⟨by omega,fun e=>a2 (by omega)⟩
  ·rintro ⟨a1,a2⟩; exact ⟨by omega,fun e=>a2 (by omega)⟩
 have hB:brB ws (a:Int)=false ↔ ∀ j k:Nat,j<ws.length->k<ws.length->j ≠ a->k ≠ a->Cn ws j k->mgI (grM (ws.eraseIdx a)) (koN a j:Int)=mgI (grM (ws.eraseIdx a)) (koN a k:Int):=by
  unfold brB
  rw[Int.toNat_natCast,brk_iff _ _ kIv_nil]
  constructor
  ·rintro ⟨_,h2⟩ j k hj hk nj nk c
   have:=h2 (j:Int) (k:Int) (by omega) (by omega) (by omega) (by omega) (by omega) (by omega) ((mg_cn h hj hk).2 c)
   rw[koI_nat nj (by omega),koI_nat nk (by omega)] at this
   exact this
  ·intro hall
   refine ⟨fun j _ _ _ hm=>(by cases hm),fun j k g1 g2 g3 g4 g5 g6 g7 => ?_⟩
   obtain ⟨j,rfl⟩:=Int.eq_ofNat_of_zero_le g1
   obtain ⟨k,rfl⟩:=Int.eq_ofNat_of_zero_le g4
   show mgI _ (koI (j:Int) (a:Int))=mgI _ (koI (k:Int) (a:Int))
   rw[koI_nat (by omega) (by omega),koI_nat (by omega) (by omega)]
   exact hall j k (by omega) (by omega) (by omega) (by omega) ((mg_cn h (by omega) (by omega)).1 g7)
 have kl:∀ j,j<ws.length->j ≠ a->koN a j<(ws.eraseIdx a).length/\upN a (koN a j)=j:=fun j hj nj=>by
  unfold koN upN
  by_cases e:j<a
  ·rw[if_pos e,if_pos e]; omega
  ·rw[if_neg e,if_neg (by omega)]; omega
 have ul:∀ i,i<(ws.eraseIdx a).length->upN a i<ws.length/\upN a i ≠ a/\koN a (upN a i)=i:=fun i hi=>by
  unfold koN upN
  by_cases e:i<a
  ·rw[if_pos e,if_pos e]; omega
  ·rw[if_neg e,if_neg (by omega)]; omega
 have hR:rbB ws (a:Int)=false ↔ ∀ i k:Nat,i<(ws.eraseIdx a).length->k<i->Cn ws (upN a i) (upN a k)->Cn (ws.eraseIdx a) i k:=by
  unfold rbB
  rw[Int.toNat_natCast,Bool.eq_false_iff,ne_eq,rb5_iff]
  constructor
  ·intro hn i k hi hk c
   refine Classical.byContradiction fun nc=>hn ⟨(i:Int),by omega,by omega,?_⟩
   rw[rb8_iff]
   exact ⟨(k:Int),by omega,by omega,(hC i k hi (by omega)).2 ⟨c,nc⟩⟩
  ·rintro hall ⟨i,g1,g2,g3⟩
   rw[rb8_iff] at g3
   obtain ⟨k,g4,g5,g6⟩:=g3
   obtain ⟨i,rfl⟩:=Int.eq_ofNat_of_zero_le g1
   obtain ⟨k,rfl⟩:=Int.eq_ofNat_of_zero_le g4
   have g6:brC (a:Int) (labL ws) (labL (ws.eraseIdx a)) (i:Int) (k:Int)=true:=g6
   obtain ⟨c1,c2⟩:=(hC i k (by omega) (by omega)).1 g6
   exact c2 (hall i k (by omega) (by omega) c1)
 have key:rbB ws (a:Int)=false ↔ brB ws (a:Int)=false:=by
  rw[hR,hB]
  constructor
  ·intro hall j k hj hk nj nk c
   obtain ⟨j1,j2⟩:=kl j hj nj
   obtain ⟨k1,k2⟩:=kl k hk nk
   rcases Nat.lt_trichotomy (koN a k) (koN a j) with e | e | e
   ·exact (mg_cn h' j1 k1).2 (hall _ _ j1 e (by rw[j2,k2]; exact c))
   ·rw[e]
   ·exact ((mg_cn h' k1 j1).2 (hall _ _ k1 e (by rw[j2,k2]; exact c.symm hj))).symm
  ·intro hall i k hi hk c
   obtain ⟨i1,i2,i3⟩:=ul i hi
   obtain ⟨k1,k2,k3⟩:=ul k (by omega)
   have:=hall _ _ i1 k1 i2 k2 c
   rw[i3,k3] at this
   exact (mg_cn h' hi (by omega)).1 this
 cases h1:rbB ws (a:Int) with
 | false=>exact (key.1 h1).symm
 | true =>
  cases h2:brB ws (a:Int) with
  | false=>rw[key.2 h2] at h1; cases h1
  | true=>rfl
end Go.Hn
/- Thin: plain law of Can: what its parts come to, by membership. -/
namespace Go.Hn
open Go.Hx Go.Hg Go.Proofs
theorem gdk {ws:List PV} {k:Nat} (h:k<ws.length):ws.getD ((k:Int)).toNat .any=ws[k]:=by
 rw[Int.toNat_natCast,List.getD_eq_getElem?_getD,List.getElem?_eq_getElem h]; rfl
theorem bdr_iff {ws:List PV} {w:PV}:∀ (n i:Nat) (b:Bool),i+n=ws.length->(bdr ws w (i:Int) n b=true ↔ b=true\/∃ e ∈ ws.drop i,wDs e ≠ wDs w/\jnW e w=true)
 | 0,i,b,h=>by
  rw[List.drop_of_length_le (by omega)]
  exact ⟨.inl,fun h=>by rcases h with h | ⟨_,h,_⟩; exact h; cases h⟩
 | n+1,i,b,h=>by
  have hi:i<ws.length:=by omega
  unfold bdr
  rw[show (i:Int)+1=((i+1:Nat):Int) by omega,bdr_iff n (i+1) _ (by omega),List.drop_eq_getElem_cons hi]
  unfold odB
  rw[gdk hi]
  by_cases e:wDs ws[i]=wDs w
  ·rw[show (wDs ws[i] != wDs w)=false by rw[bne_eq_false_iff_eq]; exact e,cond_false]
   constructor
   ·rintro (h1 | ⟨d,hd,h1⟩)
    ·exact .inl h1
    ·exact .inr ⟨d,.tail _ hd,h1⟩
   ·rintro (h1 | ⟨d,hd,h1,h2⟩)
    ·exact .inl h1
    ·rcases List.mem_cons.1 hd with rfl | hd
     ·exact absurd e h1
     ·exact .inr ⟨d,hd,h1,h2⟩
  ·rw[show (wDs ws[i] != wDs w)=true by rw[bne_iff_ne]; exact e,cond_true,Bool.or_eq_true]
   constructor
   ·rintro ((h1 | h1) | ⟨d,hd,h1⟩)
    ·exact .inl h1
    ·exact .inr ⟨_,.head _,e,h1⟩
    ·exact .inr ⟨d,.tail _ hd,h1⟩
   ·rintro (h1 | ⟨d,hd,h1,h2⟩)
    ·exact .inl (.inl h1)
    ·rcases List.mem_cons.1 hd with rfl | hd
     ·exact .inl (.inr h2)
     ·exact .inr ⟨d,hd,h1,h2⟩
def ownB (w e:PV):Bool:=wDs e==wDs w
theorem odB_at {ws:List PV} {w:PV} {i:Nat} (hi:i<ws.length):odB ws w (i:Int) = !ownB w ws[i]:=by
 unfold odB ownB; rw[gdk hi]; rfl
theorem owl_eq {ws:List PV} {w:PV}:∀ (n i:Nat),i+n=ws.length->owl ws w (i:Int) n=((ws.drop i).filter (ownB w)).map nrE
 | 0,i,h=>by rw[List.drop_of_length_le (by omega)]; rfl
 | n+1,i,h=>by
  have hi:i<ws.length:=by omega
  unfold owl
  rw[show (i:Int)+1=((i+1:Nat):Int) by omega,owl_eq n (i+1) (by omega),List.drop_eq_getElem_cons hi,odB_at hi,gdk hi,List.filter_cons]
  cases ownB w ws[i] <;> rfl
theorem plc_eq {ws:List PV} {w:PV} {a:Nat} (ho:∀ h:a<ws.length,ownB w ws[a]=true):∀ (n i:Nat) (c pl:Int),i+n=ws.length->a<ws.length ->
  plc ws w (a:Int) (i:Int) n c pl=if i<=a then c+(((ws.drop i).take (a-i)).countP (ownB w):Nat) else pl
 | 0,i,c,pl,h,ha=>by rw[if_neg (by omega)]; rfl
 | n+1,i,c,pl,h,ha=>by
  have hi:i<ws.length:=by omega
  unfold plc
  rw[show (i:Int)+1=((i+1:Nat):Int) by omega,plc_eq ho n (i+1) _ _ (by omega) ha,plc_eq ho n (i+1) _ _ (by omega) ha,odB_at hi,List.drop_eq_getElem_cons hi]
  by_cases e:i=a
  ·subst e
   rw[ho ha,if_neg (by omega),if_neg (by omega),if_pos (Nat.le_refl _),Nat.sub_self,show ((i:Int)==(i:Int))=true from beq_self_eq_true _]
   simp
  ·rw[show ((i:Int)==(a:Int))=false by rw[beq_eq_false_iff_ne]; omega]
   by_cases hl:i<=a
   ·rw[if_pos hl,if_pos (by omega),if_pos (by omega),show a-i=(a-(i+1))+1 by omega,List.take_succ_cons,List.countP_cons]
    cases ownB w ws[i] <;> simp
    omega
   ·rw[if_neg hl,if_neg (by omega),if_neg (by omega)]
    cases ownB w ws[i] <;> rfl
theorem filter_erase {α:Type} {p:α->Bool}:∀ {l:List α} {a:Nat} (h:a<l.length),p l[a]=true ->
  (l.filter p).eraseIdx ((l.take a).countP p)=(l.eraseIdx a).filter p/\(l.filter p)[(l.take a).countP p]? = some l[a]
 | [],_,h,_=>by simp at h
 | x::l,0,_,hp=>by
  have hp:p x=true:=hp
  simp[hp]
 | x::l,a+1,h,hp=>by
  obtain ⟨e1,e2⟩:=filter_erase (p:=p) (l:=l) (a:=a) (by simpa using h) hp
  rw[List.take_succ_cons,List.countP_cons,List.eraseIdx_cons_succ,List.filter_cons,List.filter_cons]
  cases hx:p x with
  | true =>
   simp only[if_true,List.eraseIdx_cons_succ,List.getElem?_cons_succ,List.getElem_cons_succ]
   exact ⟨by rw[e1],e2⟩
  | false =>
   simp only[Bool.false_eq_true,if_false,Nat.add_zero,List.getElem_cons_succ]
   exact ⟨e1,e2⟩
theorem map_erase {α β:Type} (f:α->β):∀ (l:List α) (k:Nat),(l.map f).eraseIdx k=(l.eraseIdx k).map f
 | [],_=>by simp
 | _::_,0=>rfl
 | x::l,k+1=>by simp[map_erase f l k]
theorem own_at {ws:List PV} {a:Nat} (ha:a<ws.length):∃ k:Nat,plc ws (nrE ws[a]) (a:Int) 0 ws.length 0 0=k/\∃ hk:k<(owl ws (nrE ws[a]) 0 ws.length).length,
  (owl ws (nrE ws[a]) 0 ws.length)[k]=nrE ws[a]/\(owl ws (nrE ws[a]) 0 ws.length).eraseIdx k=((ws.eraseIdx a).filter (ownB ws[a])).map nrE:=by
 have ho:ownB (nrE ws[a]) ws[a]=true:=by unfold ownB; exact beq_self_eq_true _
 have h1:=plc_eq (ws:=ws) (w:=nrE ws[a]) (a:=a) (fun _=>ho) ws.length 0 0 0 (by omega) ha
 have h2:=owl_eq (ws:=ws) (w:=nrE ws[a]) ws.length 0 (by omega)
 rw[if_pos (Nat.zero_le _),List.drop_zero,Nat.sub_zero,Int.zero_add] at h1
 rw[List.drop_zero] at h2
 obtain ⟨e1,e2⟩:=filter_erase (p:=ownB (nrE ws[a])) ha ho
 refine ⟨_,h1,?_⟩
 have h2':owl ws (nrE ws[a]) 0 ws.length=(ws.filter (ownB (nrE ws[a]))).map nrE:=h2
 rw[h2']
 obtain ⟨hk,e3⟩:=List.getElem?_eq_some_iff.1 e2
 refine ⟨by rw[List.length_map]; exact hk,by rw[List.getElem_map,e3],?_⟩
 rw[map_erase,e1]
 rfl
end Go.Hn
/- Thin: plain law of titles: how many ways have one; Can by membership. -/
namespace Go.Hn
open Go.Hx Go.Hg Go.Proofs
def mup:List (PV × PV)->PV->PV->List (PV × PV)
 | [],k,v=>[(k,v)]
 | (a,w)::D,k,v=>bif keq k a then (a,v)::D else (a,w)::mup D k v
theorem mup_eq (z v:PV) (k:PV):∀ (D:List (PV × PV)),mset (mins z D k) (midxN D k) v=mup D k v
 | []=>rfl
 | (a,w)::D=>by
  have ih:=mup_eq z v k D
  unfold mset mins midxN at ih ⊢
  unfold mup mhas midx
  cases hk:keq k a with
  | true=>simp
  | false =>
   rw[Bool.false_or,cond_false,cond_false,<- ih]
   have e:((midx D k).map (· + 1)).getD ((a,w)::D).length=(midx D k).getD D.length+1:=by cases midx D k <;> rfl
   rw[e]
   cases mhas D k <;> simp
abbrev tk (d:Int) (s:ByteArray):PV:=.agg [iv d,.val (.string s)]
theorem keq_tk (a x:Int) (b y:ByteArray):keq (tk a b) (tk x y)=((a==x)&&(b.toList==y.toList)):=by
 show ((a==x)&&((b.toList==y.toList)&&true))=_
 rw[Bool.and_true]
theorem keq_tk_iff (a x:Int) (b y:ByteArray):keq (tk a b) (tk x y)=true ↔ a=x/\b.toList=y.toList:=by
 rw[keq_tk,Bool.and_eq_true,beq_iff_eq,beq_iff_eq]
def kT (D:List (PV × PV)):Prop:=∀ p ∈ D,∃ d s,p.1=tk d s
theorem kT_mup {d:Int} {s:ByteArray} {v:PV}:∀ {D:List (PV × PV)},kT D->kT (mup D (tk d s) v)
 | [],_=>fun p h=>by
  rcases List.mem_cons.1 h with rfl | h
  ·exact ⟨d,s,rfl⟩
  ·cases h
 | (a,w)::D,hk=>fun p h=>by
  unfold mup at h
  cases e:keq (tk d s) a with
  | true =>
   rw[e,cond_true] at h
   rcases List.mem_cons.1 h with rfl | h
   ·exact hk (a,w) (.head _)
   ·exact hk p (.tail _ h)
  | false =>
   rw[e,cond_false] at h
   rcases List.mem_cons.1 h with rfl | h
   ·exact hk _ (.head _)
   ·exact kT_mup (fun q hq=>hk q (.tail _ hq)) p h
theorem mget_mup {d x:Int} {s y:ByteArray} {v z:PV}:∀ {D:List (PV × PV)},kT D->mget z (mup D (tk d s) v) (tk x y)=bif keq (tk x y) (tk d s) then v else mget z D (tk x y)
 | [],_=>rfl
 | (a,w)::D,hk=>by
  obtain ⟨p,q,hpq⟩:=hk _ (.head _)
  have hpq:a=tk p q:=hpq
  subst hpq
  have ih:=mget_mup (d:=d) (x:=x) (s:=s) (y:=y) (v:=v) (z:=z) (fun q hq=>hk q (.tail _ hq):kT D)
  unfold mup
  cases e:keq (tk d s) (tk p q) with
  | true =>
   obtain ⟨e1,e2⟩:=(keq_tk_iff ..).1 e
   have:keq (tk x y) (tk p q)=keq (tk x y) (tk d s):=by rw[keq_tk,keq_tk,e1,e2]
   rw[cond_true]
   simp only[mget,this]
   cases keq (tk x y) (tk d s) <;> rfl
  | false =>
   rw[cond_false]
   simp only[mget,ih]
   cases e1:keq (tk x y) (tk p q) with
   | false=>rfl
   | true =>
    cases e2:keq (tk x y) (tk d s) with
    | false=>rfl
    | true =>
     obtain ⟨g1,g2⟩:=(keq_tk_iff ..).1 e1
     obtain ⟨g3,g4⟩:=(keq_tk_iff ..).1 e2
     rw[(keq_tk_iff ..).2 ⟨g3.symm.trans g1,g4.symm.trans g2⟩] at e
     cases e
def tget (D:List (PV × PV)) (k:PV):Int:=((mget (iv 0) D k).cellAt 0).getI
def ttQ (k x:PV):Bool:=keq k (ttE x)
theorem ttN_get {D:List (PV × PV)} (hk:kT D) (d:Int) (s:ByteArray) (x:PV):kT (ttN D (ttE x))/\tget (ttN D (ttE x)) (tk d s)=bif ttQ (tk d s) x then W (tget D (ttE x)+1) else tget D (tk d s):=by
 unfold ttN
 rw[Int.toNat_natCast,mup_eq]
 refine ⟨kT_mup hk,?_⟩
 unfold tget
 rw[mget_mup hk]
 unfold ttQ
 cases keq (tk d s) (ttE x) <;> rfl
theorem tget_keq {D:List (PV × PV)} (hk:kT D) {d x:Int} {s y:ByteArray} (h:keq (tk d s) (tk x y)=true):mget (iv 0) D (tk d s)=mget (iv 0) D (tk x y):=by
 obtain ⟨h1,h2⟩:=(keq_tk_iff ..).1 h
 induction D with
 | nil=>rfl
 | cons p D ih =>
  obtain ⟨a,w⟩:=p
  obtain ⟨u,v,huv⟩:=hk _ (.head _)
  have huv:a=tk u v:=huv
  subst huv
  simp only[mget]
  rw[ih (fun q hq=>hk q (.tail _ hq)),keq_tk,keq_tk,h1,h2]
theorem ttl_get {ws:List PV} (h6:ws.length<=1000) (d:Int) (s:ByteArray):∀ (n k:Nat) {D:List (PV × PV)},kT D->k+n=ws.length->(∀ d s,0<=tget D (tk d s)/\tget D (tk d s)<=k) ->
  tget (ttl ws (k:Int) n D) (tk d s)=tget D (tk d s)+((ws.drop k).countP (ttQ (tk d s)):Int)
 | 0,k,D,_,h,_=>by rw[List.drop_of_length_le (by omega)]; simp[ttl]
 | n+1,k,D,hk,h,hb=>by
  have hlt:k<ws.length:=by omega
  unfold ttl
  rw[gdk hlt,show (k:Int)+1=((k+1:Nat):Int) by omega]
  have hb':∀ d s,0<=tget (ttN D (ttE ws[k])) (tk d s)/\tget (ttN D (ttE ws[k])) (tk d s)<=((k+1:Nat):Int):=fun d s=>by
   rw[(ttN_get hk d s ws[k]).2]
   have h1:=hb d s
   have h2:0<=tget D (ttE ws[k])/\tget D (ttE ws[k])<=k:=hb (wDs ws[k]) (wNm ws[k])
   cases ttQ (tk d s) ws[k] with
   | true=>rw[cond_true,W_id (by omega) (by omega)]; omega
   | false=>rw[cond_false]; omega
  rw[ttl_get h6 d s n (k+1) (ttN_get hk d s ws[k]).1 (by omega) hb',(ttN_get hk d s ws[k]).2,List.drop_eq_getElem_cons hlt,List.countP_cons]
  have h2:0<=tget D (ttE ws[k])/\tget D (ttE ws[k])<=k:=hb (wDs ws[k]) (wNm ws[k])
  cases hq:ttQ (tk d s) ws[k] with
  | true =>
   rw[cond_true,W_id (by omega) (by omega)]
   have:tget D (ttE ws[k])=tget D (tk d s):=by unfold tget; rw[tget_keq hk (show keq (tk d s) (tk (wDs ws[k]) (wNm ws[k]))=true from hq)]
   rw[this]
   simp
   omega
  | false=>simp
theorem ttC_eq {ws:List PV} (h6:ws.length<=1000) (e:PV):ttC ws e=(ws.countP (ttQ (ttE e)):Int):=by
 have:=ttl_get h6 (wDs e) (wNm e) ws.length 0 (D:=[]) (fun p h=>by cases h) (by omega) (fun d s=>⟨Int.le_refl _,Int.le_refl _⟩)
 rw[List.drop_zero,show tget [] (tk (wDs e) (wNm e))=0 from rfl] at this
 unfold ttC
 rw[show ((ws.length:Int)-0).toNat=ws.length by omega]
 exact this.trans (Int.zero_add _)
theorem ttQ_iff (x y:PV):ttQ (ttE x) y=true ↔ wDs x=wDs y/\(wNm x).toList=(wNm y).toList:=keq_tk_iff ..
theorem ttC_lt {ws:List PV} (h6:ws.length<=1000) {a:Nat} (ha:a<ws.length):ttC ws ws[a]<2 ↔ ∀ e ∈ ws.eraseIdx a,¬(wDs ws[a]=wDs e/\(wNm ws[a]).toList=(wNm e).toList):=by
 rw[ttC_eq h6]
 have hs:ws.countP (ttQ (ttE ws[a]))=(ws.eraseIdx a).countP (ttQ (ttE ws[a]))+1:=by
  have h1:ws=ws.take a++(ws[a]::ws.drop (a+1)):=by rw[<- List.drop_eq_getElem_cons ha,List.take_append_drop]
  have h2:ttQ (ttE ws[a]) ws[a]=true:=(ttQ_iff ..).2 ⟨rfl,rfl⟩
  generalize hw:ws[a]=w at h1 h2 ⊢
  rw[List.eraseIdx_eq_take_drop_succ,List.countP_append]
  conv=>lhs; rw[h1]
  rw[List.countP_append,List.countP_cons,h2]
  simp
  omega
 rw[hs]
 constructor
 ·intro h e he hq
  have:0<(ws.eraseIdx a).countP (ttQ (ttE ws[a])):=List.countP_pos_iff.2 ⟨e,he,(ttQ_iff ..).2 hq⟩
  omega
 ·intro h
  have:(ws.eraseIdx a).countP (ttQ (ttE ws[a]))=0:=List.countP_eq_zero.2 fun e he hq=>h e he ((ttQ_iff ..).1 hq)
  omega
end Go.Hn
/- Thin: Can answers as the reference's does. -/
namespace Go.Hn
open Go.Hx Go.Hg Go.Proofs
theorem bdr_R (ws:List PV) (w:PV):∀ (n:Nat) (i:Int) (b:Bool),bdr ws w i n b=(b||bdR ws w i n)
 | 0,_,b=>(Bool.or_false b).symm
 | n+1,i,b=>by
  unfold bdr bdR
  rw[bdr_R ws w n]
  cases odB ws w i <;> cases b <;> rfl
theorem owl_nr (ws:List PV) (e:PV):∀ (n:Nat) (i:Int),owl ws (nrE e) i n=owl ws e i n
 | 0,_=>rfl
 | n+1,i=>by
  unfold owl
  rw[owl_nr ws e n]
  rfl
theorem cnO_done (ws:List PV) (w:PV) (a:Int):∀ (n:Nat) (i c:Int),a<i->cnO ws w a i n c=c
 | 0,_,_,_=>rfl
 | n+1,i,c,h=>by
  unfold cnO
  rw[decide_eq_false (show ¬ i<a by omega),cond_false,cnO_done ws w a n (i+1) c (by omega)]
  cases odB ws w i <;> rfl
theorem plc_cn (ws:List PV) (e:PV) (a:Int) (ho:odB ws e a=false):∀ (n:Nat) (i c pl:Int),i<=a->a<i+n->plc ws (nrE e) a i n c pl=cnO ws e a i n c
 | 0,_,_,_,h1,h2=>by omega
 | n+1,i,c,pl,h1,h2=>by
  have e0:odB ws (nrE e) i=odB ws e i:=rfl
  unfold plc cnO
  rw[e0]
  by_cases hx:i=a
  ·subst hx
   rw[ho,cond_false,cond_false,beq_self_eq_true,cond_true,plc_done _ _ _ _ _ _ _ (by omega),decide_eq_false (by omega),cond_false,cnO_done _ _ _ _ _ _ (by omega)]
  ·rw[beq_eq_false_iff_ne.2 hx,cond_false,plc_cn ws e a ho n (i+1) c pl (by omega) (by omega),plc_cn ws e a ho n (i+1) (c+1) pl (by omega) (by omega),decide_eq_true (by omega),cond_true]
theorem nmA_iff {os:List PV} {w:PV}:∀ (n i:Nat),i+n=os.length->(nmA os w (i:Int) n=true ↔ ∃ e ∈ os.drop i,(wNm e).toList=(wNm w).toList)
 | 0,i,h=>by
  rw[List.drop_of_length_le (by omega)]
  exact ⟨fun h=>(by cases h),fun ⟨_,h,_⟩=>(by cases h)⟩
 | n+1,i,h=>by
  have hi:i<os.length:=by omega
  unfold nmA
  rw[show (i:Int)+1=((i+1:Nat):Int) by omega,Bool.or_eq_true,nmA_iff n (i+1) (by omega),List.drop_eq_getElem_cons hi,gdk hi,beq_iff_eq]
  constructor
  ·rintro (h1 | ⟨d,hd,h1⟩)
   ·exact ⟨_,.head _,h1⟩
   ·exact ⟨d,.tail _ hd,h1⟩
  ·rintro ⟨d,hd,h1⟩
   rcases List.mem_cons.1 hd with rfl | hd
   ·exact .inl h1
   ·exact .inr ⟨d,hd,h1⟩
noncomputable def caE (ws:List PV) (a:Int) (e:PV):Int:=
 bif decide (wDs e<1) then 25 else bif bdR ws (nrE e) 0 ws.length then 25 else bif rbB (owl ws e 0 ws.length) (cnO ws e a 0 ws.length 0) then 23 else
  bif (wNm e).toList==(ByteArray.mk #[]).toList then 0 else bif nmA ((owl ws e 0 ws.length).eraseIdx (cnO ws e a 0 ws.length 0).toNat) (nrE e) 0 ((owl ws e 0 ws.length).eraseIdx (cnO ws e a 0 ws.length 0).toNat).length then 0 else 24
theorem caE_eq {ws:List PV} (h:okWg ws=true) {a:Nat} (ha:a<ws.length):caE ws (a:Int) ws[a]=canE ws (a:Int) ws[a]:=by
 have h6:=(okWg_iff h).1
 obtain ⟨k,k1,hk,k2,k3⟩:=own_at ha
 have hp:=plc_cn ws ws[a] (a:Int) (by unfold odB; rw[gdk ha]; exact bne_self_eq_false _) ws.length 0 0 0 (by omega) (by omega)
 rw[k1] at hp
 rw[owl_nr] at hk k3
 unfold caE canE
 rw[bdr_R,owl_nr,k1,<- hp,rbB_eq (by rw[<- owl_nr]; exact owl_okW h _) hk,Int.toNat_natCast,k3]
 have hn:=nmA_iff (os:=((ws.eraseIdx a).filter (ownB ws[a])).map nrE) (w:=nrE ws[a]) (((ws.eraseIdx a).filter (ownB ws[a])).map nrE).length 0 (by omega)
 rw[List.drop_zero,show ((0:Nat):Int)=0 from rfl] at hn
 have ht:=ttC_lt (by omega) ha
 have hx:nmA (((ws.eraseIdx a).filter (ownB ws[a])).map nrE) (nrE ws[a]) 0 (((ws.eraseIdx a).filter (ownB ws[a])).map nrE).length = !decide (ttC ws ws[a]<2):=by
  rw[Bool.eq_iff_iff,Bool.not_eq_true',decide_eq_false_iff_not,ht,hn]
  constructor
  ·rintro ⟨e,he,hq⟩ hall
   obtain ⟨d,hd,rfl⟩:=List.mem_map.1 he
   obtain ⟨d1,d2⟩:=List.mem_filter.1 hd
   exact hall d d1 ⟨(beq_iff_eq.1 (show (wDs d==wDs ws[a])=true from d2)).symm,hq.symm⟩
  ·intro hnot
   refine Classical.byContradiction fun hne=>hnot fun d hd ⟨q1,q2⟩=>hne ⟨nrE d,List.mem_map.2 ⟨d,List.mem_filter.2 ⟨hd,by unfold ownB; exact beq_iff_eq.2 q1.symm⟩,rfl⟩,q2.symm⟩
 rw[hx]
 cases decide (wDs ws[a]<1) <;> cases bdR ws (nrE ws[a]) 0 ws.length <;> cases brB (owl ws ws[a] 0 ws.length) (k:Int) <;> cases ((wNm ws[a]).toList==(ByteArray.mk #[]).toList) <;> cases decide (ttC ws ws[a]<2) <;> rfl
end Go.Hn
/- Thin: the reference's Can as a contract. -/
namespace Go.Hn
open Go.Hx Go.Hg Go.Proofs
theorem okB_sub {ws l:List PV} (h:okB ws=true) (hl:l.length<=ws.length) (hm:∀ e ∈ l,∃ d ∈ ws,wL e=wL d):okB l=true:=by
 have hb:=okB_len h
 unfold okB at h ⊢
 simp only[Bool.and_eq_true,List.all_eq_true] at h ⊢
 refine ⟨decide_eq_true (by omega),fun e he => ?_⟩
 obtain ⟨d,hd,e1⟩:=hm e he
 rw[e1]
 exact h.2 d hd
theorem caR_eq (fa:Bool) (ea:List PV) (fb:Bool) (eb:List PV) (f:Bool) {ws:List PV} (fd:Bool) (ed:List PV) (h:okC ws=true) {a:Nat} (ha:a<ws.length):caR fa ea fb eb f ws fd ed (a:Int) ws[a]=some (iv (canE ws (a:Int) ws[a])):=by
 unfold okC at h
 rw[Bool.and_eq_true] at h
 obtain ⟨hw,hb⟩:=h
 have h6:=(okWg_iff hw).1
 obtain ⟨k,k1,hk,k2,k3⟩:=own_at ha
 have hp:=plc_cn ws ws[a] (a:Int) (by unfold odB; rw[gdk ha]; exact bne_self_eq_false _) ws.length 0 0 0 (by omega) (by omega)
 rw[k1] at hp
 rw[owl_nr] at hk
 have hbl:An (wL ws[a])=true:=by have:=okB_at hb (i:=(a:Int)) (by omega) (by omega); rw[gdk ha] at this; exact this
 have hol:=owl_len ws ws[a] ws.length 0
 have hn:((ws.length:Int)-0).toNat=ws.length:=by omega
 have ew:owA ws (a:Int)=owl ws ws[a] 0 ws.length:=by unfold owA; rw[hn,gdk ha]
 have ec:cnA ws (a:Int)=(k:Int):=by unfold cnA; rw[hn,gdk ha,<- hp]
 have hbo:okB (owl ws ws[a] 0 ws.length)=true:=okB_sub hb hol fun e he=>by
  rw[<- owl_nr] at he
  obtain ⟨d,hd,rfl⟩:=owl_mem ws _ ws.length 0 (Int.le_refl _) (by omega) e he
  exact ⟨d,hd,rfl⟩
 have hel:((owl ws ws[a] 0 ws.length).eraseIdx k).length<=(owl ws ws[a] 0 ws.length).length:=List.length_eraseIdx_le ..
 rw[<- caE_eq hw ha]
 unfold caR caE ltN
 rw[hn,ew,ec,<- hp,show okWo (owl ws ws[a] 0 ws.length) (k:Int)=true by unfold okWo; simp only[Bool.and_eq_true,decide_eq_true_eq]; omega,hbo,
  show pV9 (lV9 (a:Int) 0 fa ea fb eb f ws fd ed ws[a])=true by simp only[pV9,Bool.and_eq_true,decide_eq_true_eq]; exact ⟨Int.le_refl _,hb,of_decide_eq_true hbl⟩,
  show (decide (ws.length<=1000)&&(decide ((0:Int)<=(a:Int))&&decide ((a:Int)<(ws.length:Int))))=true by simp only[Bool.and_eq_true,decide_eq_true_eq]; omega,
  show pW9 (lW9 false ((owl ws ws[a] 0 ws.length).eraseIdx ((k:Int)).toNat) 0 fa ea fb eb f ws fd ed ws[a])=true by simp only[pW9,Bool.and_eq_true,decide_eq_true_eq,Int.toNat_natCast]; exact ⟨Int.le_refl _,by omega⟩,
  show ((((owl ws ws[a] 0 ws.length).eraseIdx ((k:Int)).toNat).length:Int)-0).toNat=((owl ws ws[a] 0 ws.length).eraseIdx ((k:Int)).toNat).length by omega]
 simp only[cond_true,Bool.and_self]
 cases decide (wDs ws[a]<1) <;> cases bdR ws (nrE ws[a]) 0 ws.length <;> cases rbB (owl ws ws[a] 0 ws.length) (k:Int) <;> cases ((wNm ws[a]).toList==(ByteArray.mk #[]).toList) <;> cases nmA ((owl ws ws[a] 0 ws.length).eraseIdx ((k:Int)).toNat) (nrE ws[a]) 0 ((owl ws ws[a] 0 ws.length).eraseIdx ((k:Int)).toNat).length <;> rfl
theorem qCaR (fa:Bool) (ea:List PV) (fb:Bool) (eb:List PV) (f:Bool) (ws:List PV) (fd:Bool) (ed:List PV) (id:Int) (h:okC ws=true):Ah Tryz.prog NRo 60 38 [.agg [.Ac fa 120 ea,.Ac fb 124 eb,.Ac f 44 ws,.Ac fd 68 ed],iv id]=some (iv (canW ws id)):=by
 have hb:An ws=true:=by
  have:=h
  unfold okC okB at this
  simp only[Bool.and_eq_true] at this
  exact this.2.1
 rw[qCa0,hb,cond_true]
 unfold canW
 rcases fiW_range ws id ws.length 0 (Int.le_refl _) with h1 | ⟨h1,h2,h3⟩
 ·rw[decide_eq_true h1]; rfl
 ·obtain ⟨a,ha⟩:=Int.eq_ofNat_of_zero_le h1
  rw[decide_eq_false (by omega),cond_false,cond_false,Am h1 (by omega),cond_true]
  rw[ha] at h2 ⊢
  have hlt:a<ws.length:=by omega
  have:=caR_eq fa ea fb eb f fd ed h hlt
  show caR fa ea fb eb f ws fd ed (a:Int) (ws.getD ((a:Int)).toNat .any)=_
  rw[gdk hlt]
  exact this
theorem eCaR:Hx.Enters Tryz.prog 38:=(Aa okNRo (qCaR false [] false [] false [] false [] 0 rfl)).1
theorem oCaR (args:List PV) (d:DT PV) (r:PV) (h:cCan args=some d) (hr:d.run=some r):Ak Tryz.prog 38 args r:=by
 unfold cCan at h; split at h
 ·cases hl:lsM _ _ _ _ with
  | none=>rw[hl] at h; cases h
  | some ws =>
   rw[hl] at h
   cases h
   obtain ⟨h1,rfl⟩:=Aq hr
   exact lsM_weak hl fun fa ea fb eb f fd ed=>(Aa okNRo (n:=60) (qCaR fa ea fb eb f ws fd ed _ h1)).2
 ·cases h
end Go.Hn
/- Thin: the reference's Cost as a contract; All: a round. -/
namespace Go.Hn
open Go.Hx Go.Hg Go.Proofs
noncomputable def NRp:Ad:=(({}:Ad).Ag 85 cFi2).Ag 38 cCan
theorem okNRp:Ab Tryz.prog NRp.env:=(Af.Ag eFi2 oFi2).Ag eCaR oCaR
theorem qCoR (fa:Bool) (ea:List PV) (fb:Bool) (eb:List PV) (f:Bool) (ws:List PV) (fd:Bool) (ed:List PV) (id:Int):Ah Tryz.prog NRp 60 40 [.agg [.Ac fa 120 ea,.Ac fb 124 eb,.Ac f 44 ws,.Ac fd 68 ed],iv id] =
 bif An ws then bif decide (fiW ws id 0 ws.length<0) then some (iv 0) else bif inr ws (fiW ws id 0 ws.length) then some (iv (W (4*((ws.getD (fiW ws id 0 ws.length).toNat .any).cellAt 6).getI))) else none else none:=by kernel_rfl
theorem qCoR' (fa:Bool) (ea:List PV) (fb:Bool) (eb:List PV) (f:Bool) (ws:List PV) (fd:Bool) (ed:List PV) (id:Int) (h:An ws=true):Ah Tryz.prog NRp 60 40 [.agg [.Ac fa 120 ea,.Ac fb 124 eb,.Ac f 44 ws,.Ac fd 68 ed],iv id]=some (iv (costW ws id)):=by
 rw[qCoR,h]
 unfold costW
 by_cases hn:fiW ws id 0 ws.length<0
 ·rw[decide_eq_true hn]; rfl
 ·rcases fiW_range ws id ws.length 0 (Int.le_refl _) with h1 | ⟨h1,h2,_⟩
  ·exact absurd h1 hn
  ·rw[decide_eq_false hn,Am h1 (by omega)]; rfl
theorem eCoR:Hx.Enters Tryz.prog 40:=(Aa okNRp (n:=60) (qCoR' true [] true [] true [] true [] 0 rfl)).1
theorem oCoR (args:List PV) (d:DT PV) (r:PV) (h:cCost args=some d) (hr:d.run=some r):Ak Tryz.prog 40 args r:=by
 unfold cCost at h; split at h
 ·split at h
  ·rename_i ws hl
   cases h
   obtain ⟨h1,rfl⟩:=Aq hr
   exact lsM_weak hl fun fa ea fb eb f fd ed=>(Aa okNRp (n:=60) (qCoR' fa ea fb eb f ws fd ed _ h1)).2
  ·cases h
 ·cases h
noncomputable def NRq:Ad:=(NRp.Ag 40 cCost).addN 44 3 [(5,81,5)]
theorem okNRq:Ab Tryz.prog NRq.env:=(okNRp.Ag eCoR oCoR).addN 44 3 [(5,81,5)]
end Go.Hn
/- Thin: the reference's All as a contract. -/
namespace Go.Hn
open Go.Hx Go.Hg Go.Proofs
def shRv:Hx.S1:=⟨51,[(1,I64),(2,.ptr 0 1 0 0),(5,.sl 1),(6,I64)],[.one 65 4 mapX,.many 81 5]⟩
abbrev lRv (d:Int) (n l:Nat) (k:Int) (fa:Bool) (ea:List PV) (fb:Bool) (eb:List PV) (g:Bool) (vs:List PV) (fd:Bool) (ed:List PV) (nl:Bool) (es:List PV):LS:=
 ([.i d,.n n,.n l,.i k],[.l fa ea,.l fb eb,.l g vs,.l fd ed,.l nl es])
abbrev tRv (n l:Nat):List PV:=tm 51 [(5,.sl 1 n 0 l)]
theorem qRv (d:Int) (n l:Nat) (k:Int) (fa:Bool) (ea:List PV) (fb:Bool) (eb:List PV) (g:Bool) (vs:List PV) (fd:Bool) (ed:List PV) (nl:Bool) (es:List PV):
 Al Tryz.prog NRq 60 44 (Ao Tryz.f44 3) [1,2,5,6] [5] (shRv.put (lRv d n l k fa ea fb eb g vs fd ed nl es)).1 (shRv.put (lRv d n l k fa ea fb eb g vs fd ed nl es)).2 =
 bif decide (k<(vs.length:Int)) then bif inr vs k then bif wDs (vs.getD k.toNat .any)==d then bif An vs then bif fiW vs (wN vs k) 0 vs.length==k then bif okC vs then bif canW vs (wN vs k)==0 then bif An vs then bif roomE es n l then
  some (.normal,shRv.put (lRv d (n+1) (n+1) (W (k+1)) fa ea fb eb g vs fd ed (nl&&false) (es++[evE vs (wN vs k)])))
  else none else none
  else some (.normal,shRv.put (lRv d n l (W (k+1)) fa ea fb eb g vs fd ed nl es)) else none
  else some (.normal,shRv.put (lRv d n l (W (k+1)) fa ea fb eb g vs fd ed nl es)) else none
  else some (.normal,shRv.put (lRv d n l (W (k+1)) fa ea fb eb g vs fd ed nl es)) else none
 else some (.exit 0,tRv n l,(shRv.put (lRv d n l k fa ea fb eb g vs fd ed nl es)).2):=by kernel_rfl
noncomputable def pRv:LS->Bool
 | ([.i _,.n n,.n l,.i k],[.l _ _,.l _ _,.l _ vs,.l _ _,.l _ es])=>decide (0<=k)&&decide (n=es.length)&&decide (l=n)&&decide ((n:Int)<=k)&&okC vs
 | _=>false
noncomputable def fRv:LS->DT (PX × List PV × List Row)
 | ([.i d,.n n,.n _,.i k],[.l fa ea,.l fb eb,.l g vs,.l fd ed,.l nl es]) =>
  .leaf (.exit 0,tRv (n+(alL vs d k ((vs.length:Int)-k).toNat).length) (n+(alL vs d k ((vs.length:Int)-k).toNat).length),(shRv.put (lRv d n n k fa ea fb eb g vs fd ed (nl&&(alL vs d k ((vs.length:Int)-k).toNat).isEmpty) (es++alL vs d k ((vs.length:Int)-k).toNat))).2)
 | _=>.no
def mRv:LS->Nat
 | ([.i _,.n _,.n _,.i k],[.l _ _,.l _ _,.l _ vs,.l _ _,.l _ _])=>((vs.length:Int)-k).toNat
 | _=>0
theorem sRv:∀ s r,pRv s=true->(fRv s).run=some r->r.1 ≠ .normal/\(Al Tryz.prog NRq 60 44 (Ao Tryz.f44 3) [1,2,5,6] [5] (shRv.put s).1 (shRv.put s).2=some r \/
   ∃ s',Al Tryz.prog NRq 60 44 (Ao Tryz.f44 3) [1,2,5,6] [5] (shRv.put s).1 (shRv.put s).2=some (.normal,shRv.put s')/\pRv s'=true/\mRv s'<mRv s/\(fRv s').run=some r):=by
 intro t r hp hr
 unfold pRv at hp; split at hp
 ·rename_i d n l k fa ea fb eb g ws fd ed nl es
  simp only[Bool.and_eq_true,decide_eq_true_eq] at hp
  obtain ⟨⟨⟨⟨h1,rfl⟩,rfl⟩,h5⟩,h6⟩:=hp
  have hr':=(Option.some.inj hr).symm
  refine ⟨by rw[hr']; simp,?_⟩
  rw[show shRv.put ([.i d,.n es.length,.n es.length,.i k],[.l fa ea,.l fb eb,.l g ws,.l fd ed,.l nl es])=shRv.put (lRv d es.length es.length k fa ea fb eb g ws fd ed nl es) from rfl,qRv]
  have h7:=okC_len h6
  by_cases hk:k<(ws.length:Int)
  ·obtain ⟨q,hq⟩:∃ q,((ws.length:Int)-k).toNat=q+1:=⟨((ws.length:Int)-k).toNat-1,by omega⟩
   have hq2:((ws.length:Int)-(k+1)).toNat=q:=by omega
   rw[hq] at hr'
   have hroom:roomE es es.length es.length=true:=by unfold roomE; simp; omega
   rw[decide_eq_true hk,cond_true,Am h1 hk,cond_true,W_id (n:=k+1) (by omega) (by omega),show An ws=true from decide_eq_true (by omega),h6,hroom]
   simp only[alL] at hr'
   have st:∀ (x y:Option (PX × List PV × List Row)),(bif wDs (ws.getD k.toNat .any)==d then bif true then bif fiW ws (wN ws k) 0 ws.length==k then bif true then bif canW ws (wN ws k)==0 then bif true then bif true then x else none else none else y else none else y else none else y)=bif goB ws d k then x else y:=fun x y=>by
    unfold goB
    cases wDs (ws.getD k.toNat .any)==d <;> cases fiW ws (wN ws k) 0 ws.length==k <;> cases canW ws (wN ws k)==0 <;> rfl
   rw[st]
   cases hg:goB ws d k with
   | false =>
    rw[hg] at hr'
    simp only[cond_false] at hr' ⊢
    refine .inr ⟨lRv d es.length es.length (k+1) fa ea fb eb g ws fd ed nl es,rfl,by simp only[pRv,Bool.and_eq_true,decide_eq_true_eq]; exact ⟨⟨⟨⟨by omega,trivial⟩,trivial⟩,by omega⟩,h6⟩,by simp only[mRv]; omega,?_⟩
    rw[hr']
    simp only[fRv,hq2]
    rfl
   | true =>
    rw[hg] at hr'
    simp only[cond_true] at hr' ⊢
    refine .inr ⟨lRv d (es.length+1) (es.length+1) (k+1) fa ea fb eb g ws fd ed (nl&&false) (es++[evE ws (wN ws k)]),rfl,by
     simp only[pRv,Bool.and_eq_true,decide_eq_true_eq,List.length_append,List.length_cons,List.length_nil]; exact ⟨⟨⟨⟨by omega,trivial⟩,trivial⟩,by omega⟩,h6⟩,by simp only[mRv]; omega,?_⟩
    rw[hr']
    simp only[fRv,hq2,List.append_assoc,List.cons_append,List.nil_append,Bool.false_and,List.length_cons,List.isEmpty_cons,Bool.and_false]
    rw[show ∀ m:Nat,es.length+1+m=es.length+(m+1) from fun m=>by omega]
    rfl
  ·rw[decide_eq_false hk]
   rw[show ((ws.length:Int)-k).toNat=0 by omega] at hr'
   exact .inl (by rw[hr']; simp[alL])
 ·cases hp
noncomputable def NRr:Ad:=NRq.addW 44 3 [1,2,5,6] [] shRv pRv fRv
theorem okNRr:Ab Tryz.prog NRr.env:=
 okNRq.addW (n:=60) Tryz.func44 (show Tryz.f44.body=some (bod Tryz.f44) by kernel_rfl) (show (loops (bod Tryz.f44)).filter (fun b=>rid b==3)=[Ao Tryz.f44 3] by kernel_rfl) [1,2,5,6] [5] [] shRv mRv sRv
theorem qAlR (fa:Bool) (ea:List PV) (fb:Bool) (eb:List PV) (f:Bool) (ws:List PV) (fd:Bool) (ed:List PV) (d:Int):Ah Tryz.prog NRr 60 44 [.agg [.Ac fa 120 ea,.Ac fb 124 eb,.Ac f 44 ws,.Ac fd 68 ed],iv d] =
 bif pRv (lRv d 0 0 0 fa ea fb eb f ws fd ed true []) then bif ([]++alL ws d 0 ((ws.length:Int)-0).toNat).length==0+(alL ws d 0 ((ws.length:Int)-0).toNat).length then
  some (.Ac false 81 ((([]++alL ws d 0 ((ws.length:Int)-0).toNat).drop 0).take (0+(alL ws d 0 ((ws.length:Int)-0).toNat).length))) else none else none:=by kernel_rfl
theorem qAlR' (fa:Bool) (ea:List PV) (fb:Bool) (eb:List PV) (f:Bool) (ws:List PV) (fd:Bool) (ed:List PV) (d:Int) (h:okC ws=true):Ah Tryz.prog NRr 60 44 [.agg [.Ac fa 120 ea,.Ac fb 124 eb,.Ac f 44 ws,.Ac fd 68 ed],iv d]=some (.Ac false 81 (alL ws d 0 ws.length)):=by
 rw[qAlR,show pRv (lRv d 0 0 0 fa ea fb eb f ws fd ed true [])=true by simp only[pRv,Bool.and_eq_true,decide_eq_true_eq]; exact ⟨⟨⟨⟨Int.le_refl _,by trivial⟩,by trivial⟩,Int.le_refl _⟩,h⟩,
  show ((ws.length:Int)-0).toNat=ws.length by omega,List.nil_append,Nat.zero_add,beq_self_eq_true,List.drop_zero,List.take_length]
 rfl
theorem eAlR:Hx.Enters Tryz.prog 44:=(Aa okNRr (n:=60) (qAlR' true [] true [] true [] true [] 0 rfl)).1
theorem oAlR (args:List PV) (d:DT PV) (r:PV) (h:cAll args=some d) (hr:d.run=some r):Ak Tryz.prog 44 args r:=by
 unfold cAll at h; split at h
 ·split at h
  ·rename_i ws hl
   cases h
   obtain ⟨h1,rfl⟩:=Aq hr
   exact lsM_weak hl fun fa ea fb eb f fd ed=>(Aa okNRr (n:=60) (qAlR' fa ea fb eb f ws fd ed _ h1)).2
  ·cases h
 ·cases h
end Go.Hn
/- Thin: the reference's SameEvents as a contract: a list is the same as itself. -/
namespace Go.Hn
open Go.Hx Go.Hg Go.Proofs
def evI (e:PV) (j:Nat):Int:=(e.cellAt j).getI
def evS (e d:PV):Bool:=(evI e 0==evI d 0)&&((evI e 1==evI d 1)&&((evI e 2==evI d 2)&&((evI e 3==evI d 3)&&((evI e 4==evI d 4)&&true))))
def shRw:Hx.S1:=⟨26,[(0,.Ac 81),(1,.Ac 81),(5,I64)],[]⟩
abbrev lRw (f:Bool) (A:List PV) (g:Bool) (B:List PV) (i:Int):LS:=([.l f A,.l g B,.i i],[])
theorem qRw (f:Bool) (A:List PV) (g:Bool) (B:List PV) (i:Int):Al Tryz.prog ({}:Ad) 60 42 (Ao Tryz.f42 4) [0,1,5] [4] (shRw.put (lRw f A g B i)).1 (shRw.put (lRw f A g B i)).2 =
 bif decide (i<(A.length:Int)) then bif inr A i then bif inr B i then bif !(evS (A.getD i.toNat .any) (B.getD i.toNat .any)) then some (.ret,tm 26 [(4,bv false)],[]) else some (.normal,shRw.put (lRw f A g B (W (i+1)))) else none else none
 else some (.exit 0,tm 26 [],[]):=by kernel_rfl
theorem evS_self (e:PV):evS e e=true:=by unfold evS; simp
noncomputable def pRw:LS->Bool
 | ([.l _ A,.l _ B,.i i],[])=>decide (0<=i)&&decide (A.length<=1000)&&same A B
 | _=>false
noncomputable def fRw:LS->DT (PX × List PV × List Row)
 | ([.l _ _,.l _ _,.i _],[])=>.leaf (.exit 0,tm 26 [],[])
 | _=>.no
def mRw:LS->Nat
 | ([.l _ A,.l _ _,.i i],[])=>((A.length:Int)-i).toNat
 | _=>0
theorem sRw:∀ s r,pRw s=true->(fRw s).run=some r->r.1 ≠ .normal/\(Al Tryz.prog ({}:Ad) 60 42 (Ao Tryz.f42 4) [0,1,5] [4] (shRw.put s).1 (shRw.put s).2=some r \/
   ∃ s',Al Tryz.prog ({}:Ad) 60 42 (Ao Tryz.f42 4) [0,1,5] [4] (shRw.put s).1 (shRw.put s).2=some (.normal,shRw.put s')/\pRw s'=true/\mRw s'<mRw s/\(fRw s').run=some r):=by
 intro t r hp hr
 unfold pRw at hp; split at hp
 ·rename_i f A g B i
  simp only[Bool.and_eq_true,decide_eq_true_eq,same_iff] at hp
  obtain ⟨⟨h1,h2⟩,rfl⟩:=hp
  have hr':=(Option.some.inj hr).symm
  refine ⟨by rw[hr']; simp,?_⟩
  rw[show shRw.put ([.l f A,.l g A,.i i],[])=shRw.put (lRw f A g A i) from rfl,qRw]
  by_cases hi:i<(A.length:Int)
  ·rw[decide_eq_true hi,cond_true,Am h1 hi,cond_true,cond_true,evS_self,W_id (n:=i+1) (by omega) (by omega)]
   exact .inr ⟨lRw f A g A (i+1),rfl,by simp only[pRw,Bool.and_eq_true,decide_eq_true_eq,same_iff]; exact ⟨⟨by omega,h2⟩,trivial⟩,by simp only[mRw]; omega,by rw[hr']; rfl⟩
  ·rw[decide_eq_false hi]
   exact .inl (by rw[hr']; rfl)
 ·cases hp
noncomputable def NRs:Ad:=({}:Ad).addW 42 4 [0,1,5] [] shRw pRw fRw
theorem okNRs:Ab Tryz.prog NRs.env:=
 Af.addW (n:=60) Tryz.func42 (show Tryz.f42.body=some (bod Tryz.f42) by kernel_rfl) (show (loops (bod Tryz.f42)).filter (fun b=>rid b==4)=[Ao Tryz.f42 4] by kernel_rfl) [0,1,5] [4] [] shRw mRw sRw
theorem qSE (f:Bool) (A:List PV) (g:Bool) (B:List PV):Ah Tryz.prog NRs 60 42 [.Ac f 81 A,.Ac g 81 B] =
 bif (A.length:Int) != (B.length:Int) then some (bv false) else bif pRw (lRw f A g B 0) then some (bv true) else none:=by kernel_rfl
noncomputable def cSE:List PV->Option (DT PV)
 | [.Ac _ 81 A,.Ac _ 81 B]=>some (.br (decide (A.length<=1000)&&same A B) (.leaf (bv true)) .no)
 | _=>none
theorem qSE' (f:Bool) {A:List PV} (g:Bool) {B:List PV} (h:(decide (A.length<=1000)&&same A B)=true):Ah Tryz.prog NRs 60 42 [.Ac f 81 A,.Ac g 81 B]=some (bv true):=by
 simp only[Bool.and_eq_true,decide_eq_true_eq,same_iff] at h
 obtain ⟨h1,rfl⟩:=h
 rw[qSE,bne_self_eq_false,cond_false,show pRw (lRw f A g A 0)=true by simp only[pRw,Bool.and_eq_true,decide_eq_true_eq,same_iff]; exact ⟨⟨Int.le_refl _,h1⟩,trivial⟩]
 rfl
theorem eSE:Hx.Enters Tryz.prog 42:=(Aa okNRs (n:=60) (qSE' false (A:=[]) false (B:=[]) (by simp only[Bool.and_eq_true,decide_eq_true_eq,same_iff]; exact ⟨Nat.zero_le _,trivial⟩))).1
theorem oSE (args:List PV) (d:DT PV) (r:PV) (h:cSE args=some d) (hr:d.run=some r):Ak Tryz.prog 42 args r:=by
 unfold cSE at h; split at h
 ·cases h
  obtain ⟨h1,rfl⟩:=Aq hr
  exact (Aa okNRs (n:=60) (qSE' _ _ h1)).2
 ·cases h
end Go.Hn
/- Thin: the reference's Copy, list by list (printed by gencp.py 6). -/
namespace Go.Hn
open Go.Hx Go.Hg Go.Proofs
noncomputable def NCp:Ad:=(({}:Ad).addDeep 83 13 1001).addFgt 83 13 [52]
theorem okNCp:Ab Tryz.prog NCp.env:=(Af.addDeep 83 13 1001).addFgt 83 13 [52]
abbrev nlS:PV:=.val (.slice none 0 0)
abbrev mpV (f:Bool) (ws:List PV) (h:Bool) (ps:List PV):PV:=.agg [.Ac false 120 [],.Ac false 124 [],.Ac f 44 ws,.Ac h 68 ps]
abbrev aL (L:List PV):Bool:=([]++L).length==0+L.length
def cpK (L:List PV) (k:Option PV):Option PV:=bif decide ((0+L.length)*16<=140737488355328) then bif (aL L&&true)&&(((aL L&&true)&&true)&&true) then k else none else none
def cpE (e:PV):PV:=.agg [iv (wI e),.Ac false 37 ((([]++wL e).drop 0).take (0+(wL e).length)),iv (wLv e),.val (.string ((e.cellAt 3).getS)),.val (.string ((e.cellAt 4).getS)),bv ((e.cellAt 5).getB),iv ((e.cellAt 6).getI),iv ((e.cellAt 7).getI)]
theorem qCp0 (g h:Bool):Ah Tryz.prog NCp 60 83 [mpV g [] h []]=some (.agg [nlS,.Ac false 124 [],nlS,.Ac false 68 []]):=by kernel_rfl
theorem qCp1 (g h:Bool) (e0:PV):Ah Tryz.prog NCp 60 83 [mpV g [e0] h []]=cpK (wL e0) (some (.agg [nlS,.Ac false 124 [],.Ac false 44 [cpE e0],.Ac false 68 []])):=by kernel_rfl
theorem qCp2 (g h:Bool) (e0 e1:PV):Ah Tryz.prog NCp 60 83 [mpV g [e0,e1] h []]=cpK (wL e0) (cpK (wL e1) (some (.agg [nlS,.Ac false 124 [],.Ac false 44 [cpE e0,cpE e1],.Ac false 68 []]))):=by kernel_rfl
theorem qCp3 (g h:Bool) (e0 e1 e2:PV):Ah Tryz.prog NCp 60 83 [mpV g [e0,e1,e2] h []]=cpK (wL e0) (cpK (wL e1) (cpK (wL e2) (some (.agg [nlS,.Ac false 124 [],.Ac false 44 [cpE e0,cpE e1,cpE e2],.Ac false 68 []])))):=by kernel_rfl
theorem qCp4 (g h:Bool) (e0 e1 e2 e3:PV):Ah Tryz.prog NCp 60 83 [mpV g [e0,e1,e2,e3] h []]=cpK (wL e0) (cpK (wL e1) (cpK (wL e2) (cpK (wL e3) (some (.agg [nlS,.Ac false 124 [],.Ac false 44 [cpE e0,cpE e1,cpE e2,cpE e3],.Ac false 68 []]))))):=by kernel_rfl
theorem qCp5 (g h:Bool) (e0 e1 e2 e3 e4:PV):Ah Tryz.prog NCp 60 83 [mpV g [e0,e1,e2,e3,e4] h []]=cpK (wL e0) (cpK (wL e1) (cpK (wL e2) (cpK (wL e3) (cpK (wL e4) (some (.agg [nlS,.Ac false 124 [],.Ac false 44 [cpE e0,cpE e1,cpE e2,cpE e3,cpE e4],.Ac false 68 []])))))):=by kernel_rfl
theorem qCp6 (g h:Bool) (e0 e1 e2 e3 e4 e5:PV):Ah Tryz.prog NCp 60 83 [mpV g [e0,e1,e2,e3,e4,e5] h []]=cpK (wL e0) (cpK (wL e1) (cpK (wL e2) (cpK (wL e3) (cpK (wL e4) (cpK (wL e5) (some (.agg [nlS,.Ac false 124 [],.Ac false 44 [cpE e0,cpE e1,cpE e2,cpE e3,cpE e4,cpE e5],.Ac false 68 []]))))))):=by kernel_rfl
theorem qCp1p (g h:Bool) (e0:PV) (p:PV):Ah Tryz.prog NCp 60 83 [mpV g [e0] h [p]]=cpK (wL e0) (some (.agg [nlS,.Ac false 124 [],.Ac false 44 [cpE e0],.Ac false 68 [p]])):=by kernel_rfl
theorem qCp2p (g h:Bool) (e0 e1:PV) (p:PV):Ah Tryz.prog NCp 60 83 [mpV g [e0,e1] h [p]]=cpK (wL e0) (cpK (wL e1) (some (.agg [nlS,.Ac false 124 [],.Ac false 44 [cpE e0,cpE e1],.Ac false 68 [p]]))):=by kernel_rfl
theorem qCp3p (g h:Bool) (e0 e1 e2:PV) (p:PV):Ah Tryz.prog NCp 60 83 [mpV g [e0,e1,e2] h [p]]=cpK (wL e0) (cpK (wL e1) (cpK (wL e2) (some (.agg [nlS,.Ac false 124 [],.Ac false 44 [cpE e0,cpE e1,cpE e2],.Ac false 68 [p]])))):=by kernel_rfl
theorem qCp4p (g h:Bool) (e0 e1 e2 e3:PV) (p:PV):Ah Tryz.prog NCp 60 83 [mpV g [e0,e1,e2,e3] h [p]]=cpK (wL e0) (cpK (wL e1) (cpK (wL e2) (cpK (wL e3) (some (.agg [nlS,.Ac false 124 [],.Ac false 44 [cpE e0,cpE e1,cpE e2,cpE e3],.Ac false 68 [p]]))))):=by kernel_rfl
theorem qCp5p (g h:Bool) (e0 e1 e2 e3 e4:PV) (p:PV):Ah Tryz.prog NCp 60 83 [mpV g [e0,e1,e2,e3,e4] h [p]]=cpK (wL e0) (cpK (wL e1) (cpK (wL e2) (cpK (wL e3) (cpK (wL e4) (some (.agg [nlS,.Ac false 124 [],.Ac false 44 [cpE e0,cpE e1,cpE e2,cpE e3,cpE e4],.Ac false 68 [p]])))))):=by kernel_rfl
theorem qCp6p (g h:Bool) (e0 e1 e2 e3 e4 e5:PV) (p:PV):Ah Tryz.prog NCp 60 83 [mpV g [e0,e1,e2,e3,e4,e5] h [p]]=cpK (wL e0) (cpK (wL e1) (cpK (wL e2) (cpK (wL e3) (cpK (wL e4) (cpK (wL e5) (some (.agg [nlS,.Ac false 124 [],.Ac false 44 [cpE e0,cpE e1,cpE e2,cpE e3,cpE e4,cpE e5],.Ac false 68 [p]]))))))):=by kernel_rfl
theorem cpK_of {e:PV} (h:(wL e).length<=1000) (k:Option PV):cpK (wL e) k=k:=by
 unfold cpK aL
 rw[decide_eq_true (show (0+(wL e).length)*16<=140737488355328 by omega),List.nil_append,Nat.zero_add,beq_self_eq_true]; rfl
theorem cpE_eq (e:PV):cpE e=nrE e:=by
 unfold cpE nrE nbE
 rw[List.nil_append,Nat.zero_add,List.drop_zero,List.take_length]
abbrev mpR (ws ps:List PV):PV:=.agg [nlS,.Ac false 124 [],.Ac false 44 ws,.Ac false 68 ps]
theorem qCp (g h:Bool):∀ (ws:List PV),ws ≠ []->ws.length<=6->(∀ e ∈ ws,(wL e).length<=1000)->Ah Tryz.prog NCp 60 83 [mpV g ws h []]=some (mpR (ws.map nrE) [])
 | [],h,_,_=>absurd rfl h
 | [e0],_,_,ho=>by rw[qCp1,cpK_of (ho e0 (by simp))]; simp only[cpE_eq]; rfl
 | [e0,e1],_,_,ho=>by rw[qCp2,cpK_of (ho e0 (by simp)),cpK_of (ho e1 (by simp))]; simp only[cpE_eq]; rfl
 | [e0,e1,e2],_,_,ho=>by rw[qCp3,cpK_of (ho e0 (by simp)),cpK_of (ho e1 (by simp)),cpK_of (ho e2 (by simp))]; simp only[cpE_eq]; rfl
 | [e0,e1,e2,e3],_,_,ho=>by rw[qCp4,cpK_of (ho e0 (by simp)),cpK_of (ho e1 (by simp)),cpK_of (ho e2 (by simp)),cpK_of (ho e3 (by simp))]; simp only[cpE_eq]; rfl
 | [e0,e1,e2,e3,e4],_,_,ho=>by rw[qCp5,cpK_of (ho e0 (by simp)),cpK_of (ho e1 (by simp)),cpK_of (ho e2 (by simp)),cpK_of (ho e3 (by simp)),cpK_of (ho e4 (by simp))]; simp only[cpE_eq]; rfl
 | [e0,e1,e2,e3,e4,e5],_,_,ho=>by rw[qCp6,cpK_of (ho e0 (by simp)),cpK_of (ho e1 (by simp)),cpK_of (ho e2 (by simp)),cpK_of (ho e3 (by simp)),cpK_of (ho e4 (by simp)),cpK_of (ho e5 (by simp))]; simp only[cpE_eq]; rfl
 | _::_::_::_::_::_::_::_,_,h,_=>by simp only[List.length_cons] at h; omega
theorem qCpp (g h:Bool) (p:PV):∀ (ws:List PV),ws ≠ []->ws.length<=6->(∀ e ∈ ws,(wL e).length<=1000)->Ah Tryz.prog NCp 60 83 [mpV g ws h [p]]=some (mpR (ws.map nrE) [p])
 | [],h,_,_=>absurd rfl h
 | [e0],_,_,ho=>by rw[qCp1p,cpK_of (ho e0 (by simp))]; simp only[cpE_eq]; rfl
 | [e0,e1],_,_,ho=>by rw[qCp2p,cpK_of (ho e0 (by simp)),cpK_of (ho e1 (by simp))]; simp only[cpE_eq]; rfl
 | [e0,e1,e2],_,_,ho=>by rw[qCp3p,cpK_of (ho e0 (by simp)),cpK_of (ho e1 (by simp)),cpK_of (ho e2 (by simp))]; simp only[cpE_eq]; rfl
 | [e0,e1,e2,e3],_,_,ho=>by rw[qCp4p,cpK_of (ho e0 (by simp)),cpK_of (ho e1 (by simp)),cpK_of (ho e2 (by simp)),cpK_of (ho e3 (by simp))]; simp only[cpE_eq]; rfl
 | [e0,e1,e2,e3,e4],_,_,ho=>by rw[qCp5p,cpK_of (ho e0 (by simp)),cpK_of (ho e1 (by simp)),cpK_of (ho e2 (by simp)),cpK_of (ho e3 (by simp)),cpK_of (ho e4 (by simp))]; simp only[cpE_eq]; rfl
 | [e0,e1,e2,e3,e4,e5],_,_,ho=>by rw[qCp6p,cpK_of (ho e0 (by simp)),cpK_of (ho e1 (by simp)),cpK_of (ho e2 (by simp)),cpK_of (ho e3 (by simp)),cpK_of (ho e4 (by simp)),cpK_of (ho e5 (by simp))]; simp only[cpE_eq]; rfl
 | _::_::_::_::_::_::_::_,_,h,_=>by simp only[List.length_cons] at h; omega
end Go.Hn
/- Thin: slices.Clone of points, nil or not: as a contract. -/
namespace Go.Hn
open Go.Hx Go.Hg Go.Proofs
theorem qCl0 (a:Addr) (cap:Nat):Ah Tryz.prog {} 60 72 [.val (.slice (some a) 0 cap)]=some (.Ac false 37 []):=by kernel_rfl
theorem qCl1z:Ah Tryz.prog {} 60 72 [.val (.slice none 0 0)]=some (.val (.slice none 0 0)):=by kernel_rfl
theorem qCl1s (n:Nat):Ah Tryz.prog {} 60 72 [.val (.slice none 0 (n+1))]=some (.val (.slice none 0 0)):=by kernel_rfl
theorem qCl1:∀ cap:Nat,Ah Tryz.prog {} 60 72 [.val (.slice none 0 cap)]=some (.val (.slice none 0 0))
 | 0=>qCl1z
 | n+1=>qCl1s n
theorem qCl2 (f:Bool) (L:List PV):Ah Tryz.prog {} 60 72 [.Ac f 37 L] =
 bif decide (0<L.length) then bif decide ((0+L.length)*16<=140737488355328) then bif ([]++L).length==0+L.length then some (.Ac false 37 ((([]++L).drop 0).take (0+L.length))) else none else none else none:=by kernel_rfl
theorem pCl (f:Bool) (L:List PV) (h:L.length<=1000):Ak Tryz.prog 72 [.Ac f 37 L] (.Ac false 37 L):=by
 by_cases h0:0<L.length
 ·refine (Aa Af (n:=60) ?_).2
  rw[qCl2,decide_eq_true h0,decide_eq_true (show (0+L.length)*16<=140737488355328 by omega),List.nil_append,Nat.zero_add,beq_self_eq_true,List.drop_zero,List.take_length]
  rfl
 ·have:L=[]:=List.eq_nil_of_length_eq_zero (by omega)
  subst this
  intro C hR Vs hs
  have hsz:Vs.size=1:=hs.1
  have hv:=hs.2 0 _ Vs[0] rfl (Array.getElem?_eq_getElem (by omega))
  have go:∀ V:Value,V=Vs[0]->Cs Tryz.prog C [.val V] Vs:=fun V hV=>⟨hs.1,fun j c v g1 g2=>by
   match j with
   | 0 =>
    simp only[List.getElem?_cons_zero,Option.some.injEq] at g1
    subst g1
    rw[Array.getElem?_eq_getElem (by omega)] at g2
    cases g2
    rw[hV]
    exact .val
   | j+1=>simp at g1⟩
  generalize hV:Vs[0]=V at hv
  cases hv with
  | @Ac _ _ _ a cap b off cv hcap hfull ha hc hr ht =>
   cases a with
   | none=>exact pcall_nil (Aa Af (n:=60) (qCl1 cap)).2 C hR Vs (go _ hV.symm)
   | some ad=>exact (Aa Af (n:=60) (qCl0 ad cap)).2 C hR Vs (go _ hV.symm)
def cCl:List PV->Option (DT PV)
 | [.Ac _ 37 L]=>some (.br (decide (L.length<=1000)) (.leaf (.Ac false 37 L)) .no)
 | _=>none
theorem eCl:Hx.Enters Tryz.prog 72:=(Aa Af (n:=60) (qCl1 0)).1
theorem oCl (args:List PV) (d:DT PV) (r:PV) (h:cCl args=some d) (hr:d.run=some r):Ak Tryz.prog 72 args r:=by
 unfold cCl at h; split at h
 ·cases h
  obtain ⟨h1,rfl⟩:=Aq hr
  exact pCl _ _ (of_decide_eq_true h1)
 ·cases h
noncomputable def TCl:Ad:=({}:Ad).Ag 72 cCl
theorem okTCl:Ab Tryz.prog TCl.env:=Af.Ag eCl oCl
end Go.Hn
/- Thin: Apply: the ways are copied; Apply as a contract. -/
namespace Go.Hn
open Go.Hx Go.Hg Go.Proofs
def okE1 (e:PV):Bool:=decide ((wL e).length<=1000)
def clK {α:Type} (e:PV) (k:Option α):Option α:=bif okE1 e then k else none
theorem qy0 (f:Bool):Ah Tryz.prog TCl 60 78 [.Ac f 44 [],.fn (.func 81) [] []]=some (.val (.slice none 0 0)):=by kernel_rfl
theorem qy1 (f:Bool) (a:PV):Ah Tryz.prog TCl 60 78 [.Ac f 44 [a],.fn (.func 81) [] []]=clK a (some (.Ac false 44 [nrE a])):=by kernel_rfl
theorem qy2 (f:Bool) (a b:PV):Ah Tryz.prog TCl 60 78 [.Ac f 44 [a,b],.fn (.func 81) [] []]=clK a (clK b (some (.Ac false 44 [nrE a,nrE b]))):=by kernel_rfl
theorem qy3 (f:Bool) (a b c:PV):Ah Tryz.prog TCl 60 78 [.Ac f 44 [a,b,c],.fn (.func 81) [] []]=clK a (clK b (clK c (some (.Ac false 44 [nrE a,nrE b,nrE c])))):=by kernel_rfl
theorem qy4 (f:Bool) (a b c d:PV):Ah Tryz.prog TCl 60 78 [.Ac f 44 [a,b,c,d],.fn (.func 81) [] []]=clK a (clK b (clK c (clK d (some (.Ac false 44 [nrE a,nrE b,nrE c,nrE d]))))):=by kernel_rfl
theorem qy5 (f:Bool) (a b c d e:PV):Ah Tryz.prog TCl 60 78 [.Ac f 44 [a,b,c,d,e],.fn (.func 81) [] []]=clK a (clK b (clK c (clK d (clK e (some (.Ac false 44 [nrE a,nrE b,nrE c,nrE d,nrE e])))))):=by kernel_rfl
theorem qy6 (f:Bool) (a b c d e g:PV):Ah Tryz.prog TCl 60 78 [.Ac f 44 [a,b,c,d,e,g],.fn (.func 81) [] []]=clK a (clK b (clK c (clK d (clK e (clK g (some (.Ac false 44 [nrE a,nrE b,nrE c,nrE d,nrE e,nrE g]))))))):=by kernel_rfl
theorem clK_eq {α:Type} {e:PV} (h:okE1 e=true) (k:Option α):clK e k=k:=by unfold clK; rw[h]; rfl
theorem eEb:Hx.Enters Tryz.prog 78:=(Aa okTCl (qy0 true)).1
theorem qEb (f:Bool) (es:List PV) (h:es.length<=6) (ho:es.all okE1=true):Ak Tryz.prog 78 [.Ac f 44 es,.fn (.func 81) [] []] (.Ac false 44 (es.map nrE)):=by
 rw[List.all_eq_true] at ho
 match es,h,ho with
 | [],_,_=>exact pcall_nil (Aa okTCl (qy0 f)).2
 | [a],_,ho=>exact (Aa okTCl (n:=60) (by rw[qy1,clK_eq (ho a (by simp))]; rfl)).2
 | [a,b],_,ho=>exact (Aa okTCl (n:=60) (by rw[qy2,clK_eq (ho a (by simp)),clK_eq (ho b (by simp))]; rfl)).2
 | [a,b,c],_,ho=>exact (Aa okTCl (n:=60) (by rw[qy3,clK_eq (ho a (by simp)),clK_eq (ho b (by simp)),clK_eq (ho c (by simp))]; rfl)).2
 | [a,b,c,d],_,ho=>exact (Aa okTCl (n:=60) (by rw[qy4,clK_eq (ho a (by simp)),clK_eq (ho b (by simp)),clK_eq (ho c (by simp)),clK_eq (ho d (by simp))]; rfl)).2
 | [a,b,c,d,e],_,ho=>exact (Aa okTCl (n:=60) (by rw[qy5,clK_eq (ho a (by simp)),clK_eq (ho b (by simp)),clK_eq (ho c (by simp)),clK_eq (ho d (by simp)),clK_eq (ho e (by simp))]; rfl)).2
 | [a,b,c,d,e,g],_,ho=>exact (Aa okTCl (n:=60) (by rw[qy6,clK_eq (ho a (by simp)),clK_eq (ho b (by simp)),clK_eq (ho c (by simp)),clK_eq (ho d (by simp)),clK_eq (ho e (by simp)),clK_eq (ho g (by simp))]; rfl)).2
 | _::_::_::_::_::_::_::_,h,_=>simp only[List.length_cons] at h; omega
def cEb:List PV->Option (DT PV)
 | [.Ac _ 44 es,.fn (.func 81) [] []]=>some (.br (decide (es.length<=6)&&es.all okE1) (.leaf (.Ac false 44 (es.map nrE))) .no)
 | _=>none
theorem oEb (args:List PV) (d:DT PV) (r:PV) (h:cEb args=some d) (hr:d.run=some r):Ak Tryz.prog 78 args r:=by
 unfold cEb at h; split at h
 ·rename_i f es
  cases h
  obtain ⟨h1,rfl⟩:=Aq hr
  rw[Bool.and_eq_true,decide_eq_true_eq] at h1
  exact qEb f es h1.1 h1.2
 ·cases h
theorem qE0:Ah Tryz.prog {} 60 75 [nilV,.fn (.func 76) [] []]=some nilV:=by kernel_rfl
theorem qF0:Ah Tryz.prog {} 60 77 [nilV]=some nilV:=by kernel_rfl
theorem qP0:Ah Tryz.prog {} 60 82 [nilV]=some nilV:=by kernel_rfl
def cE0:List PV->Option PV
 | [.val (.slice none 0 0),.fn (.func 76) [] []]=>some nilV
 | _=>none
def cF0:List PV->Option PV
 | [.val (.slice none 0 0)]=>some nilV
 | _=>none
theorem oE0 (args:List PV) (r:PV) (h:cE0 args=some r):Hx.Enters Tryz.prog 75/\Ak Tryz.prog 75 args r:=by
 unfold cE0 at h; split at h
 ·cases h; exact Aa Af qE0
 ·cases h
theorem oF0 (args:List PV) (r:PV) (h:cF0 args=some r):Hx.Enters Tryz.prog 77/\Ak Tryz.prog 77 args r:=by
 unfold cF0 at h; split at h
 ·cases h; exact Aa Af qF0
 ·cases h
theorem oP0 (args:List PV) (r:PV) (h:cF0 args=some r):Hx.Enters Tryz.prog 82/\Ak Tryz.prog 82 args r:=by
 unfold cF0 at h; split at h
 ·cases h; exact Aa Af qP0
 ·cases h
noncomputable def TPH:Ad:=(((((TB1.Ag 37 cCan).Ag 79 cWo).Ag 78 cEb).addO 75 cE0).addO 77 cF0).addO 82 cF0
theorem okTPH:Ab Tryz.prog TPH.env:=(((((okTB1.Ag eCan oCan).Ag eWo oWo).Ag eEb oEb).addO oE0).addO oF0).addO oP0
abbrev mpN (f:Bool) (ws:List PV):PV:=.agg [nilV,nilV,.Ac f 44 ws,nilV]
def apL (ws:List PV) (id:Int):List PV:=(ws.eraseIdx (fiW ws id 0 ws.length).toNat).map nrE
theorem qAp (f:Bool) (ws:List PV) (id:Int):Ah Tryz.prog TPH 100 35 [mpN f ws,iv id] =
 bif okC ws then bif canW ws id != 0 then some (.tup [.agg [nilV,nilV,nilV,nilV],iv (canW ws id)]) else
  bif An ws then bif decide (ws.length<=6)&&decide (0<=fiW ws id 0 ws.length)&&decide (fiW ws id 0 ws.length<(ws.length:Int)) then
  bif decide ((ws.eraseIdx (fiW ws id 0 ws.length).toNat).length<=6)&&(ws.eraseIdx (fiW ws id 0 ws.length).toNat).all okE1 then
   some (.tup [mpN false (apL ws id),iv 0]) else none else none else none else none:=by kernel_rfl
end Go.Hn
/- Thin: Apply where there is one place. -/
namespace Go.Hn
open Go.Hx Go.Hg Go.Proofs
theorem qP1 (f:Bool) (p:PV):Ah Tryz.prog {} 60 82 [.Ac f 68 [p]]=some (.Ac false 68 [p]):=by kernel_rfl
def cP1:List PV->Option PV
 | [.Ac _ 68 [p]]=>some (.Ac false 68 [p])
 | _=>none
theorem oP1 (args:List PV) (r:PV) (h:cP1 args=some r):Hx.Enters Tryz.prog 82/\Ak Tryz.prog 82 args r:=by
 unfold cP1 at h; split at h
 ·cases h; exact Aa Af (qP1 _ _)
 ·cases h
noncomputable def TPI:Ad:=(((((TB1.Ag 37 cCan).Ag 79 cWo).Ag 78 cEb).addO 75 cE0).addO 77 cF0).addO 82 cP1
theorem okTPI:Ab Tryz.prog TPI.env:=(((((okTB1.Ag eCan oCan).Ag eWo oWo).Ag eEb oEb).addO oE0).addO oF0).addO oP1
abbrev mpP (f:Bool) (ws:List PV) (h:Bool) (p:PV):PV:=.agg [nilV,nilV,.Ac f 44 ws,.Ac h 68 [p]]
theorem qAp1 (f:Bool) (ws:List PV) (h:Bool) (p:PV) (id:Int):Ah Tryz.prog TPI 100 35 [mpP f ws h p,iv id] =
 bif okC ws then bif canW ws id != 0 then some (.tup [.agg [nilV,nilV,nilV,nilV],iv (canW ws id)]) else
  bif An ws then bif decide (ws.length<=6)&&decide (0<=fiW ws id 0 ws.length)&&decide (fiW ws id 0 ws.length<(ws.length:Int)) then
  bif decide ((ws.eraseIdx (fiW ws id 0 ws.length).toNat).length<=6)&&(ws.eraseIdx (fiW ws id 0 ws.length).toNat).all okE1 then
   some (.tup [mpP false (apL ws id) false p,iv 0]) else none else none else none else none:=by kernel_rfl
end Go.Hn
/- Thin: Copy and both Applies as contracts. -/
namespace Go.Hn
open Go.Hx Go.Hg Go.Proofs
theorem nil_rv {t:TypeId} {C:Ctx} {V:Value} (hv:RV Tryz.prog C nilV V):RV Tryz.prog C (.Ac false t []) V:=by
 cases hv
 exact .Ac (es:=[]) 0 0 (fun _ _=>undef) (Nat.le_refl _) (fun h=>by cases h) (fun h=>by simp at h) (fun x e j p h1 _=>by simp at h1) (fun x e j p h1 _=>by simp at h1) (fun e h1=>by cases h1)
theorem cp_weak {k:FuncId} {w d d' r:PV} (hd:∀ (C:Ctx) (V:Value),RV Tryz.prog C d V->RV Tryz.prog C d' V) (hp:Ak Tryz.prog k [.agg [.Ac false 120 [],.Ac false 124 [],w,d']] r):Ak Tryz.prog k [.agg [nilV,nilV,w,d]] r:=by
 refine pcall_weak hp fun C Vs hs=>⟨hs.1,fun j c v g1 g2 => ?_⟩
 match j with
 | 0 =>
  simp only[List.getElem?_cons_zero,Option.some.injEq] at g1
  subst g1
  have hv:=hs.2 0 _ v rfl g2
  cases hv with
  | agg hz hh =>
   refine .agg hz fun j c v q1 q2 => ?_
   match j with
   | 0=>simp at q1; subst q1; exact nil_rv (hh 0 nilV v rfl q2)
   | 1=>simp at q1; subst q1; exact nil_rv (hh 1 nilV v rfl q2)
   | 2=>simp at q1; subst q1; exact hh 2 w v rfl q2
   | 3=>simp at q1; subst q1; exact hd C v (hh 3 d v rfl q2)
   | j+4=>simp at q1
 | j+1=>simp at g1
def okCp (ws:List PV):Bool:=decide (0<ws.length)&&(decide (ws.length<=6)&&ws.all okE1)
def cCp:List PV->Option (DT PV)
 | [.agg [.val (.slice none 0 0),.val (.slice none 0 0),.Ac _ 44 ws,.val (.slice none 0 0)]]=>some (.br (okCp ws) (.leaf (mpR (ws.map nrE) [])) .no)
 | [.agg [.val (.slice none 0 0),.val (.slice none 0 0),.Ac _ 44 ws,.Ac _ 68 [p]]]=>some (.br (okCp ws) (.leaf (mpR (ws.map nrE) [p])) .no)
 | _=>none
theorem okCp_iff {ws:List PV} (h:okCp ws=true):ws ≠ []/\ws.length<=6/\∀ e ∈ ws,(wL e).length<=1000:=by
 unfold okCp okE1 at h
 simp only[Bool.and_eq_true,decide_eq_true_eq,List.all_eq_true] at h
 exact ⟨fun he=>by rw[he] at h; simp at h,h.2.1,h.2.2⟩
theorem eCp:Hx.Enters Tryz.prog 83:=(Aa okNCp (n:=60) (qCp0 false false)).1
theorem oCp (args:List PV) (d:DT PV) (r:PV) (h:cCp args=some d) (hr:d.run=some r):Ak Tryz.prog 83 args r:=by
 unfold cCp at h; split at h
 ·rename_i f ws
  cases h
  obtain ⟨h1,rfl⟩:=Aq hr
  obtain ⟨a,b,c⟩:=okCp_iff h1
  exact cp_weak (fun _ _ hv=>nil_rv hv) (Aa okNCp (n:=60) (qCp f false ws a b c)).2
 ·rename_i f ws g p
  cases h
  obtain ⟨h1,rfl⟩:=Aq hr
  obtain ⟨a,b,c⟩:=okCp_iff h1
  exact cp_weak (fun _ _ hv=>hv) (Aa okNCp (n:=60) (qCpp f g p ws a b c)).2
 ·cases h
noncomputable def NRy:Ad:=(((({}:Ad).Ag 38 cCan).Ag 83 cCp).Ag 85 cFi2).Ag 84 cWo2
theorem okNRy:Ab Tryz.prog NRy.env:=(((Ab.Ag Af eCaR oCaR).Ag eCp oCp).Ag eFi2 oFi2).Ag eWo2 oWo2
abbrev nlR4:PV:=.agg [nilV,nilV,nilV,nilV]
abbrev arA (ws:List PV) (id:Int) (r e:Option PV):Option PV:=
 bif okC ws then bif canW ws id != 0 then e else bif okCp ws then bif An (ws.map nrE) then bif okWo (ws.map nrE) (fiW (ws.map nrE) id 0 (ws.map nrE).length) then r else none else none else none else none
abbrev arL (ws:List PV) (id:Int):List PV:=(ws.map nrE).eraseIdx (fiW (ws.map nrE) id 0 (ws.map nrE).length).toNat
theorem qAr (f:Bool) (ws:List PV) (id:Int):Ah Tryz.prog NRy 60 36 [mpN f ws,iv id] =
 arA ws id (some (.tup [.agg [nilV,.Ac false 124 [],.Ac false 44 (arL ws id),.Ac false 68 []],iv 0])) (some (.tup [nlR4,iv (canW ws id)])):=by kernel_rfl
theorem qArp (f:Bool) (ws:List PV) (h:Bool) (p:PV) (id:Int):Ah Tryz.prog NRy 60 36 [mpP f ws h p,iv id] =
 arA ws id (some (.tup [.agg [nilV,.Ac false 124 [],.Ac false 44 (arL ws id),.Ac false 68 [p]],iv 0])) (some (.tup [nlR4,iv (canW ws id)])):=by kernel_rfl
theorem gd_map (g:PV->PV) (ws:List PV) {j:Nat} (h:j<ws.length):(ws.map g).getD j .any=g (ws.getD j .any):=by
 rw[List.getD_eq_getElem?_getD,List.getD_eq_getElem?_getD,List.getElem?_map,List.getElem?_eq_getElem h]; rfl
theorem fiW_nr (ws:List PV) (id:Int):∀ (n:Nat) (k:Int),0<=k->k+n<=(ws.length:Int)->fiW (ws.map nrE) id k n=fiW ws id k n
 | 0,_,_,_=>rfl
 | n+1,k,h0,h1=>by
  unfold fiW wN
  rw[gd_map nrE ws (show k.toNat<ws.length by omega),fiW_nr ws id n (k+1) (by omega) (by omega)]
  rfl
theorem erase_map (g:PV->PV):∀ (ws:List PV) (i:Nat),(ws.map g).eraseIdx i=(ws.eraseIdx i).map g
 | [],_=>rfl
 | _::_,0=>rfl
 | a::ws,i+1=>by simp only[List.map_cons,List.eraseIdx_cons_succ,erase_map g ws i]
theorem arL_eq (ws:List PV) (id:Int):arL ws id=apL ws id:=by
 unfold arL apL
 rw[List.length_map,fiW_nr ws id ws.length 0 (Int.le_refl _) (by omega),erase_map]
def okAp (ws:List PV):Bool:=okC ws&&ws.all okE1
theorem canW_ne {ws:List PV} {id:Int} (h:(canW ws id==0)=true):0<=fiW ws id 0 ws.length/\fiW ws id 0 ws.length<(ws.length:Int):=by
 have hf:¬ fiW ws id 0 ws.length<0:=fun hx=>by
  unfold canW at h
  rw[decide_eq_true hx] at h
  cases h
 rcases fiW_range ws id ws.length 0 (Int.le_refl _) with h | ⟨ha,hb,_⟩
 ·exact absurd h hf
 ·exact ⟨ha,by omega⟩
theorem arA_eq {ws:List PV} {id:Int} (h:okAp ws=true) (r e:Option PV):arA ws id r e=bif canW ws id==0 then r else e:=by
 unfold okAp at h
 rw[Bool.and_eq_true] at h
 have h6:=okC_len h.1
 unfold arA
 rw[h.1,cond_true]
 unfold bne
 cases hc:canW ws id==0 with
 | false=>rfl
 | true =>
  obtain ⟨a,b⟩:=canW_ne hc
  rw[show okCp ws=true by unfold okCp; rw[h.2,decide_eq_true h6,decide_eq_true (show 0<ws.length by omega)]; rfl,show An (ws.map nrE)=true from decide_eq_true (by rw[List.length_map]; omega),List.length_map,fiW_nr ws id ws.length 0 (Int.le_refl _) (by omega),
   show okWo (ws.map nrE) (fiW ws id 0 ws.length)=true by unfold okWo; rw[List.length_map,decide_eq_true h6,decide_eq_true a,decide_eq_true b]; rfl]
  rfl
def cArB:List PV->Option (DT PV)
 | [.agg [.val (.slice none 0 0),.val (.slice none 0 0),.Ac _ 44 ws,.val (.slice none 0 0)],.val (.int .i64 id)] =>
  some (.br (okAp ws) (.br (canW ws id==0) (.leaf (.tup [.agg [nilV,.Ac false 124 [],.Ac false 44 (apL ws id),.Ac false 68 []],iv 0])) (.leaf (.tup [nlR4,iv (canW ws id)]))) .no)
 | [.agg [.val (.slice none 0 0),.val (.slice none 0 0),.Ac _ 44 ws,.Ac _ 68 [p]],.val (.int .i64 id)] =>
  some (.br (okAp ws) (.br (canW ws id==0) (.leaf (.tup [.agg [nilV,.Ac false 124 [],.Ac false 44 (apL ws id),.Ac false 68 [p]],iv 0])) (.leaf (.tup [nlR4,iv (canW ws id)]))) .no)
 | _=>none
theorem run_br3 {c:Bool} {x y r:PV} {o:Option PV} (ho:o=bif c then some x else some y) (h:(DT.br c (.leaf x) (.leaf y)).run=some r):o=some r:=by
 rw[ho]
 cases c <;> (cases h; rfl)
theorem eArB:Hx.Enters Tryz.prog 36:=(Aa okNRy (n:=60) ((qAr true [] 0).trans rfl)).1
theorem oArB (args:List PV) (d:DT PV) (r:PV) (h:cArB args=some d) (hr:d.run=some r):Ak Tryz.prog 36 args r:=by
 unfold cArB at h; split at h
 ·rename_i f ws id
  cases h
  cases h1:okAp ws with
  | false=>rw[h1] at hr; cases hr
  | true =>
   rw[h1] at hr
   exact (Aa okNRy (n:=60) (run_br3 (by rw[qAr f ws id,arA_eq h1,arL_eq]) hr)).2
 ·rename_i f ws g p id
  cases h
  cases h1:okAp ws with
  | false=>rw[h1] at hr; cases hr
  | true =>
   rw[h1] at hr
   exact (Aa okNRy (n:=60) (run_br3 (by rw[qArp f ws g p id,arA_eq h1,arL_eq]) hr)).2
 ·cases h
abbrev atA (ws:List PV) (id:Int) (r e:Option PV):Option PV:=
 bif okC ws then bif canW ws id != 0 then e else
  bif An ws then bif decide (ws.length<=6)&&decide (0<=fiW ws id 0 ws.length)&&decide (fiW ws id 0 ws.length<(ws.length:Int)) then
  bif decide ((ws.eraseIdx (fiW ws id 0 ws.length).toNat).length<=6)&&(ws.eraseIdx (fiW ws id 0 ws.length).toNat).all okE1 then r else none else none else none else none
theorem atA_eq {ws:List PV} {id:Int} (h:okAp ws=true) (r e:Option PV):atA ws id r e=bif canW ws id==0 then r else e:=by
 unfold okAp at h
 rw[Bool.and_eq_true] at h
 have h6:=okC_len h.1
 unfold atA
 rw[h.1,cond_true]
 unfold bne
 cases hc:canW ws id==0 with
 | false=>rfl
 | true =>
  obtain ⟨a,b⟩:=canW_ne hc
  rw[show An ws=true from decide_eq_true (by omega),decide_eq_true h6,decide_eq_true a,decide_eq_true b,decide_eq_true (Nat.le_trans (List.eraseIdx_sublist ..).length_le h6),show (ws.eraseIdx (fiW ws id 0 ws.length).toNat).all okE1=true by
    have h2:=h.2
    rw[List.all_eq_true] at h2 ⊢; exact fun e he=>h2 e (List.mem_of_mem_eraseIdx he)]
  rfl
def cApA:List PV->Option (DT PV)
 | [.agg [.val (.slice none 0 0),.val (.slice none 0 0),.Ac _ 44 ws,.val (.slice none 0 0)],.val (.int .i64 id)] =>
  some (.br (okAp ws) (.br (canW ws id==0) (.leaf (.tup [mpN false (apL ws id),iv 0])) (.leaf (.tup [nlR4,iv (canW ws id)]))) .no)
 | [.agg [.val (.slice none 0 0),.val (.slice none 0 0),.Ac _ 44 ws,.Ac _ 68 [p]],.val (.int .i64 id)] =>
  some (.br (okAp ws) (.br (canW ws id==0) (.leaf (.tup [mpP false (apL ws id) false p,iv 0])) (.leaf (.tup [nlR4,iv (canW ws id)]))) .no)
 | _=>none
theorem eApA:Hx.Enters Tryz.prog 35:=(Aa okTPH (n:=100) ((qAp true [] 0).trans rfl)).1
theorem oApA (args:List PV) (d:DT PV) (r:PV) (h:cApA args=some d) (hr:d.run=some r):Ak Tryz.prog 35 args r:=by
 unfold cApA at h; split at h
 ·rename_i f ws id
  cases h
  cases h1:okAp ws with
  | false=>rw[h1] at hr; cases hr
  | true =>
   rw[h1] at hr
   exact (Aa okTPH (n:=100) (run_br3 ((qAp f ws id).trans (atA_eq h1 _ _)) hr)).2
 ·rename_i f ws g p id
  cases h
  cases h1:okAp ws with
  | false=>rw[h1] at hr; cases hr
  | true =>
   rw[h1] at hr
   exact (Aa okTPI (n:=100) (run_br3 ((qAp1 f ws g p id).trans (atA_eq h1 _ _)) hr)).2
 ·cases h
end Go.Hn
/- Thin: few ways of any list, as a contract. -/
namespace Go.Hn
open Go.Hx Go.Hg Go.Proofs
abbrev mnL (e:PV):Int:=if (6:Int)<((wL e).length:Int) then 6 else ((wL e).length:Int)
abbrev mnS (e:PV):Int:=if (30:Int)<((wNm e).size:Int) then 30 else ((wNm e).size:Int)
def cuE (e:PV):PV:=.agg [iv (wI e),.Ac false 37 (((wL e).take (mnL e).toNat).drop (0:Int).toNat),iv (wLv e),.val (.string ((e.cellAt 3).getS)),.val (.string ((wNm e).extract (0:Int).toNat (mnS e).toNat)),bv ((e.cellAt 5).getB),iv ((e.cellAt 6).getI),iv ((e.cellAt 7).getI)]
def fwK (e:PV) (k:Option PV):Option PV:=bif (decide (0<=(0:Int))&&decide ((0:Int)<=mnL e))&&decide (mnL e<=((wL e).length:Int)) then bif (decide (0<=(0:Int))&&decide ((0:Int)<=mnS e))&&decide (mnS e<=((wNm e).size:Int)) then k else none else none
def fwF:List PV->Option PV
 | []=>some nilV
 | a::as'=>some (.Ac false 44 (((a::as').drop 0).take (a::as').length))
def fwT (L:List PV):Nat->Int->List PV->Option PV
 | 0,i,ac=>bif decide (i<(L.length:Int)) then fwF ac else fwF ac
 | n+1,i,ac=>bif decide (i<(L.length:Int)) then bif inr L i then fwK (L.getD i.toNat .any) (fwT L n (W (i+1)) (ac++[cuE (L.getD i.toNat .any)])) else none else fwF ac
theorem qFw (f:Bool) (L:List PV):Ah Tryz.prog {} 60 34 [.Ac f 44 L]=fwT L 5 0 []:=by kernel_rfl
theorem fwK_eq (e:PV) (k:Option PV):fwK e k=k:=by
 have a1:0<=mnL e:=by unfold mnL; split <;> omega
 have a2:mnL e<=((wL e).length:Int):=by unfold mnL; split <;> omega
 have b1:0<=mnS e:=by unfold mnS; split <;> omega
 have b2:mnS e<=((wNm e).size:Int):=by unfold mnS; split <;> omega
 unfold fwK
 rw[decide_eq_true a1,decide_eq_true a2,decide_eq_true b1,decide_eq_true b2]
 rfl
theorem fwT_eq (L:List PV):∀ (n:Nat) (i:Int) (ac:List PV),0<=i->i+n<=1000->fwT L n i ac=fwF (ac++((L.drop i.toNat).take n).map cuE)
 | 0,i,ac,_,_=>by
  unfold fwT
  rw[List.take_zero,List.map_nil,List.append_nil]
  cases decide (i<(L.length:Int)) <;> rfl
 | n+1,i,ac,h0,h1=>by
  unfold fwT
  by_cases hi:i<(L.length:Int)
  ·have hl:i.toNat<L.length:=by omega
   rw[decide_eq_true hi,cond_true,Am h0 hi,cond_true,fwK_eq,W_id (n:=i+1) (by omega) (by omega),fwT_eq L n (i+1) _ (by omega) (by omega),List.append_assoc,
    List.drop_eq_getElem_cons hl,List.take_succ_cons,List.map_cons,show (i+1).toNat=i.toNat+1 by omega,List.getD_eq_getElem?_getD,List.getElem?_eq_getElem hl]
   rfl
  ·rw[decide_eq_false hi,List.drop_eq_nil_of_le (by omega),List.take_nil,List.map_nil,List.append_nil]; rfl
def fewW (L:List PV):List PV:=(L.take 5).map cuE
theorem pFw (f:Bool) (L:List PV):Ak Tryz.prog 34 [.Ac f 44 L] (.Ac false 44 (fewW L)):=by
 have h:Ah Tryz.prog {} 60 34 [.Ac f 44 L]=fwF (fewW L):=by
  rw[qFw,fwT_eq L 5 0 [] (Int.le_refl _) (by omega)]
  rfl
 cases hf:fewW L with
 | nil=>rw[hf] at h; exact pcall_nil (Aa Af h).2
 | cons a l =>
  rw[hf,show fwF (a::l)=some (.Ac false 44 (((a::l).drop 0).take (a::l).length)) from rfl,List.drop_zero,List.take_length] at h
  exact (Aa Af h).2
theorem eFw:Hx.Enters Tryz.prog 34:=(Aa Af (n:=60) ((qFw false []).trans (by rfl:_=some nilV))).1
def cFw:List PV->Option PV
 | [.Ac _ 44 L]=>some (.Ac false 44 (fewW L))
 | _=>none
theorem oFw (args:List PV) (r:PV) (h:cFw args=some r):Hx.Enters Tryz.prog 34/\Ak Tryz.prog 34 args r:=by
 unfold cFw at h; split at h
 ·cases h; exact ⟨eFw,pFw _ _⟩
 ·cases h
theorem fewW_len (L:List PV):(fewW L).length<=5:=by unfold fewW; rw[List.length_map,List.length_take]; omega
theorem fewW_line (L:List PV) {e:PV} (h:e ∈ fewW L):(wL e).length<=6:=by
 unfold fewW at h
 obtain ⟨d,_,rfl⟩:=List.mem_map.1 h
 show (((wL d).take (mnL d).toNat).drop (0:Int).toNat).length<=6
 rw[List.length_drop,List.length_take]
 unfold mnL
 split <;> omega
end Go.Hn
/- Thin: both Applies where the place lies in a row. -/
namespace Go.Hn
open Go.Hx Go.Hg Go.Proofs
noncomputable def TPJ:Ad:=(((((TB1.Ag 37 cCan).Ag 79 cWo).Ag 78 cEb).addO 75 cE0).addO 77 cF0).addK 82
theorem okTPJ:Ab Tryz.prog TPJ.env:=(((((okTB1.Ag eCan oCan).Ag eWo oWo).Ag eEb oEb).addO oE0).addO oF0).addK 82
abbrev mpS (f:Bool) (ws:List PV):PV:=.agg [nilV,nilV,.Ac f 44 ws,.sl 0 1 0 1]
theorem qApS (f:Bool) (ws:List PV) (p:PV) (id:Int):runSE Tryz.prog TPJ 100 35 [mpS f ws,iv id] [Hx.rN 68 7 false [p]] =
 atA ws id (some (.tup [mpP false (apL ws id) false p,iv 0])) (some (.tup [nlR4,iv (canW ws id)])):=by kernel_rfl
def cApS:List PV->List Row->Option (DT PV)
 | [.agg [.val (.slice none 0 0),.val (.slice none 0 0),.Ac _ 44 ws,.sl 0 1 0 1],.val (.int .i64 id)],[⟨[p],7,68,true,true,false,none,false⟩] =>
  some (.br (okAp ws) (.br (canW ws id==0) (.leaf (.tup [mpP false (apL ws id) false p,iv 0])) (.leaf (.tup [nlR4,iv (canW ws id)]))) .no)
 | _,_=>none
theorem oApS (args:List PV) (H:List Row) (d:DT PV) (q:PV) (h:cApS args H=some d) (hd:d.run=some q):RCall Tryz.prog H.length 35 args H q H:=by
 unfold cApS at h; split at h
 ·rename_i f ws id p
  cases h
  cases h1:okAp ws with
  | false=>rw[h1] at hd; cases hd
  | true =>
   rw[h1] at hd
   exact (runSE_sound okTPJ (n:=100) (run_br3 ((qApS f ws p id).trans (atA_eq h1 _ _)) hd)).2
 ·cases h
abbrev mpT (f:Bool) (ws:List PV):PV:=.agg [.Ac false 120 [],.Ac false 124 [],.Ac f 44 ws,.sl 0 1 0 1]
abbrev rwP (p:PV):Row:=Hx.rN 68 7 false [p]
def cpK2 (L:List PV) (k:Option (PV × List Row)):Option (PV × List Row):=bif decide ((0+L.length)*16<=140737488355328) then bif (aL L&&true)&&(((aL L&&true)&&true)&&true) then k else none else none
theorem qCpS1 (f:Bool) (p e0:PV):runS Tryz.prog NCp 60 83 [mpT f [e0]] [rwP p]=cpK2 (wL e0) (some (mpR [cpE e0] [p],[rwP p])):=by kernel_rfl
theorem qCpS2 (f:Bool) (p e0 e1:PV):runS Tryz.prog NCp 60 83 [mpT f [e0,e1]] [rwP p]=cpK2 (wL e0) (cpK2 (wL e1) (some (mpR [cpE e0,cpE e1] [p],[rwP p]))):=by kernel_rfl
theorem qCpS3 (f:Bool) (p e0 e1 e2:PV):runS Tryz.prog NCp 60 83 [mpT f [e0,e1,e2]] [rwP p]=cpK2 (wL e0) (cpK2 (wL e1) (cpK2 (wL e2) (some (mpR [cpE e0,cpE e1,cpE e2] [p],[rwP p])))):=by kernel_rfl
theorem qCpS4 (f:Bool) (p e0 e1 e2 e3:PV):runS Tryz.prog NCp 60 83 [mpT f [e0,e1,e2,e3]] [rwP p]=cpK2 (wL e0) (cpK2 (wL e1) (cpK2 (wL e2) (cpK2 (wL e3) (some (mpR [cpE e0,cpE e1,cpE e2,cpE e3] [p],[rwP p]))))):=by kernel_rfl
theorem qCpS5 (f:Bool) (p e0 e1 e2 e3 e4:PV):runS Tryz.prog NCp 60 83 [mpT f [e0,e1,e2,e3,e4]] [rwP p]=cpK2 (wL e0) (cpK2 (wL e1) (cpK2 (wL e2) (cpK2 (wL e3) (cpK2 (wL e4) (some (mpR [cpE e0,cpE e1,cpE e2,cpE e3,cpE e4] [p],[rwP p])))))):=by kernel_rfl
theorem qCpS6 (f:Bool) (p e0 e1 e2 e3 e4 e5:PV):runS Tryz.prog NCp 60 83 [mpT f [e0,e1,e2,e3,e4,e5]] [rwP p]=cpK2 (wL e0) (cpK2 (wL e1) (cpK2 (wL e2) (cpK2 (wL e3) (cpK2 (wL e4) (cpK2 (wL e5) (some (mpR [cpE e0,cpE e1,cpE e2,cpE e3,cpE e4,cpE e5] [p],[rwP p]))))))):=by kernel_rfl
theorem cpK2_of {e:PV} (h:(wL e).length<=1000) (k:Option (PV × List Row)):cpK2 (wL e) k=k:=by
 unfold cpK2 aL
 rw[decide_eq_true (show (0+(wL e).length)*16<=140737488355328 by omega),List.nil_append,Nat.zero_add,beq_self_eq_true]; rfl
theorem qCpS (f:Bool) (p:PV):∀ (ws:List PV),ws ≠ []->ws.length<=6->(∀ e ∈ ws,(wL e).length<=1000)->runS Tryz.prog NCp 60 83 [mpT f ws] [rwP p]=some (mpR (ws.map nrE) [p],[rwP p])
 | [],h,_,_=>absurd rfl h
 | [e0],_,_,ho=>by rw[qCpS1,cpK2_of (ho e0 (by simp))]; simp only[cpE_eq]; rfl
 | [e0,e1],_,_,ho=>by rw[qCpS2,cpK2_of (ho e0 (by simp)),cpK2_of (ho e1 (by simp))]; simp only[cpE_eq]; rfl
 | [e0,e1,e2],_,_,ho=>by rw[qCpS3,cpK2_of (ho e0 (by simp)),cpK2_of (ho e1 (by simp)),cpK2_of (ho e2 (by simp))]; simp only[cpE_eq]; rfl
 | [e0,e1,e2,e3],_,_,ho=>by rw[qCpS4,cpK2_of (ho e0 (by simp)),cpK2_of (ho e1 (by simp)),cpK2_of (ho e2 (by simp)),cpK2_of (ho e3 (by simp))]; simp only[cpE_eq]; rfl
 | [e0,e1,e2,e3,e4],_,_,ho=>by rw[qCpS5,cpK2_of (ho e0 (by simp)),cpK2_of (ho e1 (by simp)),cpK2_of (ho e2 (by simp)),cpK2_of (ho e3 (by simp)),cpK2_of (ho e4 (by simp))]; simp only[cpE_eq]; rfl
 | [e0,e1,e2,e3,e4,e5],_,_,ho=>by rw[qCpS6,cpK2_of (ho e0 (by simp)),cpK2_of (ho e1 (by simp)),cpK2_of (ho e2 (by simp)),cpK2_of (ho e3 (by simp)),cpK2_of (ho e4 (by simp)),cpK2_of (ho e5 (by simp))]; simp only[cpE_eq]; rfl
 | _::_::_::_::_::_::_::_,_,h,_=>by simp only[List.length_cons] at h; omega
theorem cs_nil2 {C:Ctx} {w d:PV} {Vs:Array Value} (hs:Cs Tryz.prog C [.agg [nilV,nilV,w,d]] Vs):Cs Tryz.prog C [.agg [.Ac false 120 [],.Ac false 124 [],w,d]] Vs:=by
 refine ⟨hs.1,fun j c v g1 g2 => ?_⟩
 match j with
 | 0 =>
  simp only[List.getElem?_cons_zero,Option.some.injEq] at g1
  subst g1
  have hv:=hs.2 0 _ v rfl g2
  cases hv with
  | agg hz hh =>
   refine .agg hz fun j c v q1 q2 => ?_
   match j with
   | 0=>simp at q1; subst q1; exact nil_rv (hh 0 nilV v rfl q2)
   | 1=>simp at q1; subst q1; exact nil_rv (hh 1 nilV v rfl q2)
   | 2=>simp at q1; subst q1; exact hh 2 w v rfl q2
   | 3=>simp at q1; subst q1; exact hh 3 d v rfl q2
   | j+4=>simp at q1
 | j+1=>simp at g1
def cCpS:List PV->List Row->Option (DT (PV × List Row))
 | [.agg [.val (.slice none 0 0),.val (.slice none 0 0),.Ac _ 44 ws,.sl 0 1 0 1]],[⟨[p],7,68,true,true,false,none,false⟩]=>some (.br (okCp ws) (.leaf (mpR (ws.map nrE) [p],[rwP p])) .no)
 | _,_=>none
theorem run_brR {c:Bool} {x y:PV × List Row} (h:(DT.br c (.leaf x) .no).run=some y):c=true/\y=x:=by
 cases c
 ·cases h
 ·cases h; exact ⟨rfl,rfl⟩
theorem oCpS (args:List PV) (H:List Row) (d:DT (PV × List Row)) (q:PV) (H':List Row) (h:cCpS args H=some d) (hd:d.run=some (q,H')):RCall Tryz.prog 0 83 args H q H':=by
 unfold cCpS at h; split at h
 ·rename_i f ws p
  cases h
  obtain ⟨h1,h2⟩:=run_brR hd
  obtain ⟨a,b,c⟩:=okCp_iff h1
  have:=(runS_sound okNCp (n:=60) (qCpS f p ws a b c)).2
  cases h2
  exact fun C hH hro hR Vs hs=>this C hH hro hR Vs (cs_nil2 hs)
 ·cases h
noncomputable def NRz:Ad:=(((({}:Ad).Ag 38 cCan).addR 83 cCpS).Ag 85 cFi2).Ag 84 cWo2
theorem okNRz:Ab Tryz.prog NRz.env:=(((Ab.Ag Af eCaR oCaR).addR eCp oCpS).Ag eFi2 oFi2).Ag eWo2 oWo2
abbrev arS (ws:List PV) (id:Int) (r e:Option (PV × List Row)):Option (PV × List Row):=
 bif okC ws then bif canW ws id != 0 then e else bif okCp ws then bif An (ws.map nrE) then bif okWo (ws.map nrE) (fiW (ws.map nrE) id 0 (ws.map nrE).length) then r else none else none else none else none
theorem qArS (f:Bool) (ws:List PV) (p:PV) (id:Int):runS Tryz.prog NRz 60 36 [mpS f ws,iv id] [rwP p] =
 arS ws id (some (.tup [.agg [nilV,.Ac false 124 [],.Ac false 44 (arL ws id),.Ac false 68 [p]],iv 0],[rwP p])) (some (.tup [nlR4,iv (canW ws id)],[rwP p])):=by kernel_rfl
theorem arS_eq {ws:List PV} {id:Int} (h:okAp ws=true) (r e:Option (PV × List Row)):arS ws id r e=bif canW ws id==0 then r else e:=by
 unfold okAp at h
 rw[Bool.and_eq_true] at h
 have h6:=okC_len h.1
 unfold arS
 rw[h.1,cond_true]
 unfold bne
 cases hc:canW ws id==0 with
 | false=>rfl
 | true =>
  obtain ⟨a,b⟩:=canW_ne hc
  rw[show okCp ws=true by unfold okCp; rw[h.2,decide_eq_true h6,decide_eq_true (show 0<ws.length by omega)]; rfl,show An (ws.map nrE)=true from decide_eq_true (by rw[List.length_map]; omega),List.length_map,fiW_nr ws id ws.length 0 (Int.le_refl _) (by omega),
   show okWo (ws.map nrE) (fiW ws id 0 ws.length)=true by unfold okWo; rw[List.length_map,decide_eq_true h6,decide_eq_true a,decide_eq_true b]; rfl]
  rfl
def cArS:List PV->List Row->Option (DT (PV × List Row))
 | [.agg [.val (.slice none 0 0),.val (.slice none 0 0),.Ac _ 44 ws,.sl 0 1 0 1],.val (.int .i64 id)],[⟨[p],7,68,true,true,false,none,false⟩] =>
  some (.br (okAp ws) (.br (canW ws id==0) (.leaf (.tup [.agg [nilV,.Ac false 124 [],.Ac false 44 (apL ws id),.Ac false 68 [p]],iv 0],[rwP p])) (.leaf (.tup [nlR4,iv (canW ws id)],[rwP p]))) .no)
 | _,_=>none
theorem run_brS {c:Bool} {x y r:PV × List Row} {o:Option (PV × List Row)} (ho:o=bif c then some x else some y) (h:(DT.br c (.leaf x) (.leaf y)).run=some r):o=some r:=by
 rw[ho]
 cases c <;> (cases h; rfl)
theorem oArS (args:List PV) (H:List Row) (d:DT (PV × List Row)) (q:PV) (H':List Row) (h:cArS args H=some d) (hd:d.run=some (q,H')):RCall Tryz.prog 0 36 args H q H':=by
 unfold cArS at h; split at h
 ·rename_i f ws id p
  cases h
  cases h1:okAp ws with
  | false=>rw[h1] at hd; cases hd
  | true =>
   rw[h1] at hd
   exact (runS_sound okNRz (n:=60) (run_brS (by rw[qArS f ws p id,arS_eq h1,arL_eq]) hd)).2
 ·cases h
end Go.Hn
/- Thin: both Alls where the place lies in a row (printed by genzm.py). -/
namespace Go.Hn
open Go.Hx Go.Hg Go.Proofs
def shZm1:Hx.S1:=⟨47,[(1,I64),(2,.ptr 1 1 0 0),(4,.sl 2),(8,.Ac 44),(9,I64),(10,I64)],[.one 68 7 .pv,.onef 65 4 (.agg [.nil,.nil,.Ac 44,.sl 0]),.many 81 5]⟩
abbrev lM2 (d:Int) (n l:Nat) (f:Bool) (ws:List PV) (N k:Int) (p:PV) (g:Bool) (vs:List PV) (nl:Bool) (es:List PV):LS:=
 ([.i d,.n n,.n l,.l f ws,.i N,.i k],[.p p,.l g vs,.n 1,.n 1,.l nl es])
abbrev tM2 (_:List PV) (n l:Nat):List PV:=tm 47 [(4,.sl 2 n 0 l)]
theorem qM2 (d:Int) (n l:Nat) (f:Bool) (ws:List PV) (N k:Int) (p:PV) (g:Bool) (vs:List PV) (nl:Bool) (es:List PV):
 runBr Tryz.prog TJ1 60 1 43 (Ao Tryz.f43 2) [1,2,4,8,9,10] [4] (shZm1.put (lM2 d n l f ws N k p g vs nl es)).1 (shZm1.put (lM2 d n l f ws N k p g vs nl es)).2 =
 bif decide (k<N) then bif inr ws k then bif wDs (ws.getD k.toNat .any)==d then bif An vs then bif fiW vs (wN ws k) 0 vs.length==k then bif okC vs then bif canW vs (wN ws k)==0 then bif An vs then bif roomE es n l then
  some (.normal,shZm1.put (lM2 d (n+1) (n+1) f ws N (W (k+1)) p g vs (nl&&false) (es++[evE vs (wN ws k)])))
  else none else none
  else some (.normal,shZm1.put (lM2 d n l f ws N (W (k+1)) p g vs nl es)) else none
  else some (.normal,shZm1.put (lM2 d n l f ws N (W (k+1)) p g vs nl es)) else none
  else some (.normal,shZm1.put (lM2 d n l f ws N (W (k+1)) p g vs nl es)) else none
 else some (.exit 0,tM2 es n l,(shZm1.put (lM2 d n l f ws N k p g vs nl es)).2):=by kernel_rfl
noncomputable def pM2:LS->Bool
 | ([.i _,.n n,.n l,.l _ ws,.i N,.i k],[.p _,.l _ vs,.n 1,.n 1,.l _ es])=>decide (0<=k)&&decide (N=(ws.length:Int))&&decide (n=es.length)&&decide (l=n)&&decide ((n:Int)<=k)&&(okC vs&&same ws vs)
 | _=>false
noncomputable def fM2:LS->DT (PX × List PV × List Row)
 | ([.i d,.n n,.n _,.l f ws,.i N,.i k],[.p p,.l g vs,.n 1,.n 1,.l nl es]) =>
  .leaf (.exit 0,tM2 es (n+(alL vs d k (N-k).toNat).length) (n+(alL vs d k (N-k).toNat).length),(shZm1.put (lM2 d n n f ws N k p g vs (nl&&(alL vs d k (N-k).toNat).isEmpty) (es++alL vs d k (N-k).toNat))).2)
 | _=>.no
def mM2:LS->Nat
 | ([.i _,.n _,.n _,.l _ _,.i N,.i k],[.p _,.l _ _,.n _,.n _,.l _ _])=>(N-k).toNat
 | _=>0
theorem sM2:∀ s r,pM2 s=true->(fM2 s).run=some r->r.1 ≠ .normal/\(runBr Tryz.prog TJ1 60 1 43 (Ao Tryz.f43 2) [1,2,4,8,9,10] [4] (shZm1.put s).1 (shZm1.put s).2=some r \/
   ∃ s',runBr Tryz.prog TJ1 60 1 43 (Ao Tryz.f43 2) [1,2,4,8,9,10] [4] (shZm1.put s).1 (shZm1.put s).2=some (.normal,shZm1.put s')/\pM2 s'=true/\mM2 s'<mM2 s/\(fM2 s').run=some r):=by
 intro t r hp hr
 unfold pM2 at hp; split at hp
 ·rename_i d n l f ws N k p g vs nl es
  simp only[Bool.and_eq_true,decide_eq_true_eq,same_iff] at hp
  obtain ⟨⟨⟨⟨⟨h1,rfl⟩,rfl⟩,rfl⟩,h5⟩,h6,rfl⟩:=hp
  have hr':=(Option.some.inj hr).symm
  refine ⟨by rw[hr']; simp,?_⟩
  rw[show shZm1.put ([.i d,.n es.length,.n es.length,.l f ws,.i (ws.length:Int),.i k],[.p p,.l g ws,.n 1,.n 1,.l nl es])=shZm1.put (lM2 d es.length es.length f ws (ws.length:Int) k p g ws nl es) from rfl,qM2]
  have h7:=okC_len h6
  by_cases hk:k<(ws.length:Int)
  ·obtain ⟨q,hq⟩:∃ q,((ws.length:Int)-k).toNat=q+1:=⟨((ws.length:Int)-k).toNat-1,by omega⟩
   have hq2:((ws.length:Int)-(k+1)).toNat=q:=by omega
   rw[hq] at hr'
   have hroom:roomE es es.length es.length=true:=by unfold roomE; simp; omega
   rw[decide_eq_true hk,cond_true,Am h1 hk,cond_true,W_id (n:=k+1) (by omega) (by omega),show An ws=true from decide_eq_true (by omega),h6,hroom]
   simp only[alL] at hr'
   have st:∀ (x y:Option (PX × List PV × List Row)),(bif wDs (ws.getD k.toNat .any)==d then bif true then bif fiW ws (wN ws k) 0 ws.length==k then bif true then bif canW ws (wN ws k)==0 then bif true then bif true then x else none else none else y else none else y else none else y)=bif goB ws d k then x else y:=fun x y=>by
    unfold goB
    cases wDs (ws.getD k.toNat .any)==d <;> cases fiW ws (wN ws k) 0 ws.length==k <;> cases canW ws (wN ws k)==0 <;> rfl
   rw[st]
   cases hg:goB ws d k with
   | false =>
    rw[hg] at hr'
    simp only[cond_false] at hr' ⊢
    refine .inr ⟨lM2 d es.length es.length f ws (ws.length:Int) (k+1) p g ws nl es,rfl,by simp only[pM2,Bool.and_eq_true,decide_eq_true_eq,same_iff]; exact ⟨⟨⟨⟨⟨by omega,trivial⟩,trivial⟩,trivial⟩,by omega⟩,h6,trivial⟩,by simp only[mM2]; omega,?_⟩
    rw[hr']
    simp only[fM2,hq2]
    rfl
   | true =>
    rw[hg] at hr'
    simp only[cond_true] at hr' ⊢
    refine .inr ⟨lM2 d (es.length+1) (es.length+1) f ws (ws.length:Int) (k+1) p g ws (nl&&false) (es++[evE ws (wN ws k)]),rfl,by
     simp only[pM2,Bool.and_eq_true,decide_eq_true_eq,same_iff,List.length_append,List.length_cons,List.length_nil]; exact ⟨⟨⟨⟨⟨by omega,trivial⟩,trivial⟩,trivial⟩,by omega⟩,h6,trivial⟩,by simp only[mM2]; omega,?_⟩
    rw[hr']
    simp only[fM2,hq2,List.append_assoc,List.cons_append,List.nil_append,Bool.false_and,List.length_cons,List.isEmpty_cons,Bool.and_false]
    rw[show ∀ m:Nat,es.length+1+m=es.length+(m+1) from fun m=>by omega]
    rfl
  ·rw[decide_eq_false hk]
   rw[show ((ws.length:Int)-k).toNat=0 by omega] at hr'
   exact .inl (by rw[hr']; simp[alL])
 ·cases hp
noncomputable def TL2:Ad:=TJ1.addWr 1 43 2 [1,2,4,8,9,10] shZm1 pM2 fM2
theorem okTL2:Ab Tryz.prog TL2.env:=
 okTJ1.addWr (n:=60) (q:=1) Tryz.func43 (show Tryz.f43.body=some (bod Tryz.f43) by kernel_rfl) (show (loops (bod Tryz.f43)).filter (fun b=>rid b==2)=[Ao Tryz.f43 2] by kernel_rfl) [1,2,4,8,9,10] [4] shZm1 mM2 sM2
theorem qAll2 (p:PV) (f:Bool) (ws:List PV) (d:Int):runSE Tryz.prog TL2 100 43 [mpS f ws,iv d] [rwP p] =
 bif pM2 (lM2 d 0 0 f ws (ws.length:Int) 0 p f ws true []) then bif ([]++alL ws d 0 ((ws.length:Int)-0).toNat).length==0+(alL ws d 0 ((ws.length:Int)-0).toNat).length then
  some (.Ac false 81 ((([]++alL ws d 0 ((ws.length:Int)-0).toNat).drop 0).take (0+(alL ws d 0 ((ws.length:Int)-0).toNat).length))) else none else none:=by kernel_rfl
theorem qAllS (p:PV) (f:Bool) (ws:List PV) (d:Int) (h:okC ws=true):runSE Tryz.prog TL2 100 43 [mpS f ws,iv d] [rwP p]=some (.Ac false 81 (alL ws d 0 ws.length)):=by
 rw[qAll2,show pM2 (lM2 d 0 0 f ws (ws.length:Int) 0 p f ws true [])=true by simp only[pM2,Bool.and_eq_true,decide_eq_true_eq,same_iff]; exact ⟨⟨⟨⟨⟨Int.le_refl _,trivial⟩,rfl⟩,trivial⟩,Int.le_refl _⟩,h,trivial⟩,
  show ((ws.length:Int)-0).toNat=ws.length by omega,List.nil_append,Nat.zero_add,beq_self_eq_true,List.drop_zero,List.take_length]
 rfl
def cAllS:List PV->List Row->Option (DT PV)
 | [.agg [.val (.slice none 0 0),.val (.slice none 0 0),.Ac _ 44 ws,.sl 0 1 0 1],.val (.int .i64 d)],[⟨[_],7,68,true,true,false,none,false⟩] =>
  some (.br (okC ws) (.leaf (.Ac false 81 (alL ws d 0 ws.length))) .no)
 | _,_=>none
theorem oAllS (args:List PV) (H:List Row) (d:DT PV) (q:PV) (h:cAllS args H=some d) (hd:d.run=some q):RCall Tryz.prog H.length 43 args H q H:=by
 unfold cAllS at h; split at h
 ·rename_i f ws id p
  cases h
  obtain ⟨h1,rfl⟩:=Aq hd
  exact (runSE_sound okTL2 (n:=100) (qAllS p f ws id h1)).2
 ·cases h
def shZm2:Hx.S1:=⟨51,[(1,I64),(2,.ptr 1 1 0 0),(5,.sl 2),(6,I64)],[.one 68 7 .pv,.onef 65 4 (.agg [.nil,.nil,.Ac 44,.sl 0]),.many 81 5]⟩
abbrev lRw2 (d:Int) (n l:Nat) (k:Int) (p:PV) (g:Bool) (vs:List PV) (nl:Bool) (es:List PV):LS:=
 ([.i d,.n n,.n l,.i k],[.p p,.l g vs,.n 1,.n 1,.l nl es])
abbrev tRw (n l:Nat):List PV:=tm 51 [(5,.sl 2 n 0 l)]
theorem qRw2 (d:Int) (n l:Nat) (k:Int) (p:PV) (g:Bool) (vs:List PV) (nl:Bool) (es:List PV):
 runBr Tryz.prog NRq 60 1 44 (Ao Tryz.f44 3) [1,2,5,6] [5] (shZm2.put (lRw2 d n l k p g vs nl es)).1 (shZm2.put (lRw2 d n l k p g vs nl es)).2 =
 bif decide (k<(vs.length:Int)) then bif inr vs k then bif wDs (vs.getD k.toNat .any)==d then bif An vs then bif fiW vs (wN vs k) 0 vs.length==k then bif okC vs then bif canW vs (wN vs k)==0 then bif An vs then bif roomE es n l then
  some (.normal,shZm2.put (lRw2 d (n+1) (n+1) (W (k+1)) p g vs (nl&&false) (es++[evE vs (wN vs k)])))
  else none else none
  else some (.normal,shZm2.put (lRw2 d n l (W (k+1)) p g vs nl es)) else none
  else some (.normal,shZm2.put (lRw2 d n l (W (k+1)) p g vs nl es)) else none
  else some (.normal,shZm2.put (lRw2 d n l (W (k+1)) p g vs nl es)) else none
 else some (.exit 0,tRw n l,(shZm2.put (lRw2 d n l k p g vs nl es)).2):=by kernel_rfl
noncomputable def pRw2:LS->Bool
 | ([.i _,.n n,.n l,.i k],[.p _,.l _ vs,.n 1,.n 1,.l _ es])=>decide (0<=k)&&decide (n=es.length)&&decide (l=n)&&decide ((n:Int)<=k)&&okC vs
 | _=>false
noncomputable def fRw2:LS->DT (PX × List PV × List Row)
 | ([.i d,.n n,.n _,.i k],[.p p,.l g vs,.n 1,.n 1,.l nl es]) =>
  .leaf (.exit 0,tRw (n+(alL vs d k ((vs.length:Int)-k).toNat).length) (n+(alL vs d k ((vs.length:Int)-k).toNat).length),(shZm2.put (lRw2 d n n k p g vs (nl&&(alL vs d k ((vs.length:Int)-k).toNat).isEmpty) (es++alL vs d k ((vs.length:Int)-k).toNat))).2)
 | _=>.no
def mRw2:LS->Nat
 | ([.i _,.n _,.n _,.i k],[.p _,.l _ vs,.n _,.n _,.l _ _])=>((vs.length:Int)-k).toNat
 | _=>0
theorem sRw2:∀ s r,pRw2 s=true->(fRw2 s).run=some r->r.1 ≠ .normal/\(runBr Tryz.prog NRq 60 1 44 (Ao Tryz.f44 3) [1,2,5,6] [5] (shZm2.put s).1 (shZm2.put s).2=some r \/
   ∃ s',runBr Tryz.prog NRq 60 1 44 (Ao Tryz.f44 3) [1,2,5,6] [5] (shZm2.put s).1 (shZm2.put s).2=some (.normal,shZm2.put s')/\pRw2 s'=true/\mRw2 s'<mRw2 s/\(fRw2 s').run=some r):=by
 intro t r hp hr
 unfold pRw2 at hp; split at hp
 ·rename_i d n l k p g ws nl es
  simp only[Bool.and_eq_true,decide_eq_true_eq] at hp
  obtain ⟨⟨⟨⟨h1,rfl⟩,rfl⟩,h5⟩,h6⟩:=hp
  have hr':=(Option.some.inj hr).symm
  refine ⟨by rw[hr']; simp,?_⟩
  rw[show shZm2.put ([.i d,.n es.length,.n es.length,.i k],[.p p,.l g ws,.n 1,.n 1,.l nl es])=shZm2.put (lRw2 d es.length es.length k p g ws nl es) from rfl,qRw2]
  have h7:=okC_len h6
  by_cases hk:k<(ws.length:Int)
  ·obtain ⟨q,hq⟩:∃ q,((ws.length:Int)-k).toNat=q+1:=⟨((ws.length:Int)-k).toNat-1,by omega⟩
   have hq2:((ws.length:Int)-(k+1)).toNat=q:=by omega
   rw[hq] at hr'
   have hroom:roomE es es.length es.length=true:=by unfold roomE; simp; omega
   rw[decide_eq_true hk,cond_true,Am h1 hk,cond_true,W_id (n:=k+1) (by omega) (by omega),show An ws=true from decide_eq_true (by omega),h6,hroom]
   simp only[alL] at hr'
   have st:∀ (x y:Option (PX × List PV × List Row)),(bif wDs (ws.getD k.toNat .any)==d then bif true then bif fiW ws (wN ws k) 0 ws.length==k then bif true then bif canW ws (wN ws k)==0 then bif true then bif true then x else none else none else y else none else y else none else y)=bif goB ws d k then x else y:=fun x y=>by
    unfold goB
    cases wDs (ws.getD k.toNat .any)==d <;> cases fiW ws (wN ws k) 0 ws.length==k <;> cases canW ws (wN ws k)==0 <;> rfl
   rw[st]
   cases hg:goB ws d k with
   | false =>
    rw[hg] at hr'
    simp only[cond_false] at hr' ⊢
    refine .inr ⟨lRw2 d es.length es.length (k+1) p g ws nl es,rfl,by simp only[pRw2,Bool.and_eq_true,decide_eq_true_eq]; exact ⟨⟨⟨⟨by omega,trivial⟩,trivial⟩,by omega⟩,h6⟩,by simp only[mRw2]; omega,?_⟩
    rw[hr']
    simp only[fRw2,hq2]
    rfl
   | true =>
    rw[hg] at hr'
    simp only[cond_true] at hr' ⊢
    refine .inr ⟨lRw2 d (es.length+1) (es.length+1) (k+1) p g ws (nl&&false) (es++[evE ws (wN ws k)]),rfl,by
     simp only[pRw2,Bool.and_eq_true,decide_eq_true_eq,List.length_append,List.length_cons,List.length_nil]; exact ⟨⟨⟨⟨by omega,trivial⟩,trivial⟩,by omega⟩,h6⟩,by simp only[mRw2]; omega,?_⟩
    rw[hr']
    simp only[fRw2,hq2,List.append_assoc,List.cons_append,List.nil_append,Bool.false_and,List.length_cons,List.isEmpty_cons,Bool.and_false]
    rw[show ∀ m:Nat,es.length+1+m=es.length+(m+1) from fun m=>by omega]
    rfl
  ·rw[decide_eq_false hk]
   rw[show ((ws.length:Int)-k).toNat=0 by omega] at hr'
   exact .inl (by rw[hr']; simp[alL])
 ·cases hp
noncomputable def NRr2:Ad:=NRq.addWr 1 44 3 [1,2,5,6] shZm2 pRw2 fRw2
theorem okNRr2:Ab Tryz.prog NRr2.env:=
 okNRq.addWr (n:=60) (q:=1) Tryz.func44 (show Tryz.f44.body=some (bod Tryz.f44) by kernel_rfl) (show (loops (bod Tryz.f44)).filter (fun b=>rid b==3)=[Ao Tryz.f44 3] by kernel_rfl) [1,2,5,6] [5] shZm2 mRw2 sRw2
theorem qAlR2 (p:PV) (f:Bool) (ws:List PV) (d:Int):runSE Tryz.prog NRr2 60 44 [mpS f ws,iv d] [rwP p] =
 bif pRw2 (lRw2 d 0 0 0 p f ws true []) then bif ([]++alL ws d 0 ((ws.length:Int)-0).toNat).length==0+(alL ws d 0 ((ws.length:Int)-0).toNat).length then
  some (.Ac false 81 ((([]++alL ws d 0 ((ws.length:Int)-0).toNat).drop 0).take (0+(alL ws d 0 ((ws.length:Int)-0).toNat).length))) else none else none:=by kernel_rfl
theorem qAlS (p:PV) (f:Bool) (ws:List PV) (d:Int) (h:okC ws=true):runSE Tryz.prog NRr2 60 44 [mpS f ws,iv d] [rwP p]=some (.Ac false 81 (alL ws d 0 ws.length)):=by
 rw[qAlR2,show pRw2 (lRw2 d 0 0 0 p f ws true [])=true by simp only[pRw2,Bool.and_eq_true,decide_eq_true_eq]; exact ⟨⟨⟨⟨Int.le_refl _,by trivial⟩,by trivial⟩,Int.le_refl _⟩,h⟩,
  show ((ws.length:Int)-0).toNat=ws.length by omega,List.nil_append,Nat.zero_add,beq_self_eq_true,List.drop_zero,List.take_length]
 rfl
theorem oAlS (args:List PV) (H:List Row) (d:DT PV) (q:PV) (h:cAllS args H=some d) (hd:d.run=some q):RCall Tryz.prog H.length 44 args H q H:=by
 unfold cAllS at h; split at h
 ·rename_i f ws id p
  cases h
  obtain ⟨h1,rfl⟩:=Aq hd
  exact (runSE_sound okNRr2 (n:=60) (qAlS p f ws id h1)).2
 ·cases h
end Go.Hn
/- Thin: Same of points, of ways, and SameWays as contracts. -/
namespace Go.Hn
open Go.Hx Go.Hg Go.Proofs
def eqP (a b:PV):Bool:=((a.cellAt 0).getI==(b.cellAt 0).getI)&&(((a.cellAt 1).getI==(b.cellAt 1).getI)&&true)
def smP (A B:List PV):Int->Nat->Bool
 | _,0=>true
 | i,n+1=>eqP (A.getD i.toNat .any) (B.getD i.toNat .any)&&smP A B (i+1) n
def shPa:Hx.S1:=⟨26,[(0,.Ac 37),(1,.Ac 37),(5,I64)],[]⟩
abbrev lPa (f:Bool) (A:List PV) (g:Bool) (B:List PV) (i:Int):LS:=([.l f A,.l g B,.i i],[])
theorem qPa (f:Bool) (A:List PV) (g:Bool) (B:List PV) (i:Int):Al Tryz.prog ({}:Ad) 60 125 (Ao Tryz.f125 4) [0,1,5] [4] (shPa.put (lPa f A g B i)).1 (shPa.put (lPa f A g B i)).2 =
 bif decide (i<(A.length:Int)) then bif inr A i then bif inr B i then bif !eqP (A.getD i.toNat .any) (B.getD i.toNat .any) then some (.ret,tm 26 [(4,bv false)],[]) else some (.normal,shPa.put (lPa f A g B (W (i+1)))) else none else none
 else some (.exit 0,tm 26 [],[]):=by kernel_rfl
def pPa:LS->Bool
 | ([.l _ A,.l _ B,.i i],[])=>decide (0<=i)&&(decide (A.length<=9223372036854775806)&&decide (A.length=B.length))
 | _=>false
noncomputable def fPa:LS->DT (PX × List PV × List Row)
 | ([.l _ A,.l _ B,.i i],[])=>.br (smP A B i ((A.length:Int)-i).toNat) (.leaf (.exit 0,tm 26 [],[])) (.leaf (.ret,tm 26 [(4,bv false)],[]))
 | _=>.no
def mPa:LS->Nat
 | ([.l _ A,.l _ _,.i i],[])=>((A.length:Int)-i).toNat
 | _=>0
theorem sPa:∀ s r,pPa s=true->(fPa s).run=some r->r.1 ≠ .normal/\(Al Tryz.prog ({}:Ad) 60 125 (Ao Tryz.f125 4) [0,1,5] [4] (shPa.put s).1 (shPa.put s).2=some r \/
   ∃ s',Al Tryz.prog ({}:Ad) 60 125 (Ao Tryz.f125 4) [0,1,5] [4] (shPa.put s).1 (shPa.put s).2=some (.normal,shPa.put s')/\pPa s'=true/\mPa s'<mPa s/\(fPa s').run=some r):=by
 intro s r hp hr
 unfold pPa at hp; split at hp
 ·rename_i f A g B i
  simp only[Bool.and_eq_true,decide_eq_true_eq] at hp
  obtain ⟨h1,h2,h3⟩:=hp
  have hr':=run_br2 hr
  refine ⟨by rw[hr']; cases smP A B i ((A.length:Int)-i).toNat <;> simp,?_⟩
  rw[show shPa.put ([.l f A,.l g B,.i i],[])=shPa.put (lPa f A g B i) from rfl,qPa]
  by_cases hi:i<(A.length:Int)
  ·obtain ⟨m,hm⟩:∃ m,((A.length:Int)-i).toNat=m+1:=⟨((A.length:Int)-i).toNat-1,by omega⟩
   have hm2:((A.length:Int)-(i+1)).toNat=m:=by omega
   rw[hm] at hr'
   simp only[smP] at hr'
   rw[decide_eq_true hi,Am h1 hi,Am (es:=B) h1 (by omega),W_id (n:=i+1) (by omega) (by omega)]
   cases he:eqP (A.getD i.toNat .any) (B.getD i.toNat .any) with
   | false=>rw[he] at hr'; exact .inl (by rw[hr']; rfl)
   | true =>
    rw[he] at hr'
    refine .inr ⟨lPa f A g B (i+1),rfl,by simp only[pPa,Bool.and_eq_true,decide_eq_true_eq]; exact ⟨by omega,h2,h3⟩,by simp only[mPa]; omega,?_⟩
    rw[hr']
    simp only[fPa,hm2,Bool.true_and]
    cases smP A B (i+1) m <;> rfl
  ·rw[decide_eq_false hi]
   rw[show ((A.length:Int)-i).toNat=0 by omega] at hr'
   exact .inl (by rw[hr']; rfl)
 ·cases hp
noncomputable def TPA:Ad:=({}:Ad).addW 125 4 [0,1,5] [] shPa pPa fPa
theorem okTPA:Ab Tryz.prog TPA.env:=
 Af.addW (n:=60) Tryz.func125 (show Tryz.f125.body=some (bod Tryz.f125) by kernel_rfl) (show (loops (bod Tryz.f125)).filter (fun b=>rid b==4)=[Ao Tryz.f125 4] by kernel_rfl) [0,1,5] [4] [] shPa mPa sPa
theorem qPs (f:Bool) (A:List PV) (g:Bool) (B:List PV):Ah Tryz.prog TPA 60 125 [.Ac f 37 A,.Ac g 37 B] =
 bif (A.length:Int) != (B.length:Int) then some (bv false) else bif pPa (lPa f A g B 0) then bif smP A B 0 ((A.length:Int)-0).toNat then some (bv true) else some (bv false) else none:=by kernel_rfl
def samePt (A B:List PV):Bool:=((A.length:Int)==(B.length:Int))&&smP A B 0 A.length
theorem qPs' (f:Bool) (A:List PV) (g:Bool) (B:List PV) (h:An A=true):Ah Tryz.prog TPA 60 125 [.Ac f 37 A,.Ac g 37 B]=some (bv (samePt A B)):=by
 have h:=of_decide_eq_true h
 rw[qPs]
 unfold samePt bne
 cases he:((A.length:Int)==(B.length:Int)) with
 | false=>rfl
 | true =>
  have he':A.length=B.length:=by have:=beq_iff_eq.1 he; omega
  rw[show pPa (lPa f A g B 0)=true by simp only[pPa,Bool.and_eq_true,decide_eq_true_eq]; exact ⟨Int.le_refl _,by omega,he'⟩,show ((A.length:Int)-0).toNat=A.length by omega]
  cases smP A B 0 A.length <;> rfl
def cPs:List PV->Option (DT PV)
 | [.Ac _ 37 A,.Ac _ 37 B]=>some (.br (An A) (.leaf (bv (samePt A B))) .no)
 | _=>none
theorem ePs:Hx.Enters Tryz.prog 125:=(Aa okTPA (n:=60) (qPs' true [] true [] rfl)).1
theorem oPs (args:List PV) (d:DT PV) (r:PV) (h:cPs args=some d) (hr:d.run=some r):Ak Tryz.prog 125 args r:=by
 unfold cPs at h; split at h
 ·cases h
  obtain ⟨h1,rfl⟩:=Aq hr
  exact (Aa okTPA (n:=60) (qPs' _ _ _ _ h1)).2
 ·cases h
noncomputable def TPB:Ad:=({}:Ad).Ag 125 cPs
theorem okTPB:Ab Tryz.prog TPB.env:=Af.Ag ePs oPs
abbrev wvP (i:Int) (f:Bool) (A:List PV) (lv:Int) (c nm:ByteArray) (s:Bool) (wt ds:Int):PV:=.agg [iv i,.Ac f 37 A,iv lv,.val (.string c),.val (.string nm),bv s,iv wt,iv ds]
def sme (A B:List PV) (i i' lv lv':Int) (c c' nm nm':ByteArray) (s s':Bool) (wt wt' ds ds':Int):Bool:=
 samePt A B&&((i==i')&&((lv==lv')&&((c.toList==c'.toList)&&((nm.toList==nm'.toList)&&((s==s')&&((wt==wt')&&(ds==ds')))))))
theorem qSm (i:Int) (f:Bool) (A:List PV) (lv:Int) (c nm:ByteArray) (s:Bool) (wt ds:Int) (i':Int) (g:Bool) (B:List PV) (lv':Int) (c' nm':ByteArray) (s':Bool) (wt' ds':Int):
 Ah Tryz.prog TPB 60 90 [wvP i f A lv c nm s wt ds,wvP i' g B lv' c' nm' s' wt' ds'] =
 bif An A then bif samePt A B then bif i==i' then bif lv==lv' then bif c.toList==c'.toList then bif nm.toList==nm'.toList then bif s==s' then bif wt==wt' then some (bv (ds==ds'))
  else some (bv false) else some (bv false) else some (bv false) else some (bv false) else some (bv false) else some (bv false) else some (bv false) else none:=by kernel_rfl
def cSm : List PV → Option (DT PV)
  | [.agg [.val (.int .i64 i), .Ac _ 37 A, .val (.int .i64 lv), .val (.string c), .val (.string nm), .val (.bool s), .val (.int .i64 wt), .val (.int .i64 ds)],
     .agg [.val (.int .i64 i'), .Ac _ 37 B, .val (.int .i64 lv'), .val (.string c'), .val (.string nm'), .val (.bool s'), .val (.int .i64 wt'), .val (.int .i64 ds')]] =>
    some (.br (An A) (.leaf (bv (sme A B i i' lv lv' c c' nm nm' s s' wt wt' ds ds'))) .no)
  | _ => none
theorem qSm' (i:Int) (f:Bool) (A:List PV) (lv:Int) (c nm:ByteArray) (s:Bool) (wt ds:Int) (i':Int) (g:Bool) (B:List PV) (lv':Int) (c' nm':ByteArray) (s':Bool) (wt' ds':Int) (h:An A=true):
 Ah Tryz.prog TPB 60 90 [wvP i f A lv c nm s wt ds,wvP i' g B lv' c' nm' s' wt' ds']=some (bv (sme A B i i' lv lv' c c' nm nm' s s' wt wt' ds ds')):=by
 rw[qSm,h]
 unfold sme
 cases samePt A B <;> cases i==i' <;> cases lv==lv' <;> cases c.toList==c'.toList <;> cases nm.toList==nm'.toList <;> cases s==s' <;> cases wt==wt' <;> rfl
theorem eSm:Hx.Enters Tryz.prog 90:=(Aa okTPB (n:=60) (qSm' 0 true [] 0 .empty .empty false 0 0 0 true [] 0 .empty .empty false 0 0 rfl)).1
theorem oSm (args:List PV) (d:DT PV) (r:PV) (h:cSm args=some d) (hr:d.run=some r):Ak Tryz.prog 90 args r:=by
 unfold cSm at h; split at h
 ·cases h
  obtain ⟨h1,rfl⟩:=Aq hr
  exact (Aa okTPB (n:=60) (qSm' _ _ _ _ _ _ _ _ _ _ _ _ _ _ _ _ _ _ h1)).2
 ·cases h
noncomputable def TPC:Ad:=TPB.Ag 90 cSm
theorem okTPC:Ab Tryz.prog TPC.env:=okTPB.Ag eSm oSm
def smeE (e d:PV):Bool:=sme (wL e) (wL d) (wI e) (wI d) (wLv e) (wLv d) ((e.cellAt 3).getS) ((d.cellAt 3).getS) ((e.cellAt 4).getS) ((d.cellAt 4).getS) ((e.cellAt 5).getB) ((d.cellAt 5).getB) ((e.cellAt 6).getI) ((d.cellAt 6).getI) ((e.cellAt 7).getI) ((d.cellAt 7).getI)
def smW (A B:List PV):Int->Nat->Bool
 | _,0=>true
 | i,n+1=>smeE (A.getD i.toNat .any) (B.getD i.toNat .any)&&smW A B (i+1) n
def shPb:Hx.S1:=⟨29,[(0,.Ac 44),(1,.Ac 44),(5,I64)],[]⟩
abbrev lPb (f:Bool) (A:List PV) (g:Bool) (B:List PV) (i:Int):LS:=([.l f A,.l g B,.i i],[])
theorem qPb (f:Bool) (A:List PV) (g:Bool) (B:List PV) (i:Int):Al Tryz.prog TPC 60 41 (Ao Tryz.f41 4) [0,1,5] [4] (shPb.put (lPb f A g B i)).1 (shPb.put (lPb f A g B i)).2 =
 bif decide (i<(A.length:Int)) then bif inr A i then bif inr B i then bif An (wL (A.getD i.toNat .any)) then bif !smeE (A.getD i.toNat .any) (B.getD i.toNat .any) then some (.ret,tm 29 [(4,bv false)],[]) else some (.normal,shPb.put (lPb f A g B (W (i+1)))) else none else none else none
 else some (.exit 0,tm 29 [],[]):=by kernel_rfl
def pPb:LS->Bool
 | ([.l _ A,.l _ B,.i i],[])=>decide (0<=i)&&(okB A&&(decide (A.length<=1000)&&decide (A.length=B.length)))
 | _=>false
noncomputable def fPb:LS->DT (PX × List PV × List Row)
 | ([.l _ A,.l _ B,.i i],[])=>.br (smW A B i ((A.length:Int)-i).toNat) (.leaf (.exit 0,tm 29 [],[])) (.leaf (.ret,tm 29 [(4,bv false)],[]))
 | _=>.no
def mPb:LS->Nat
 | ([.l _ A,.l _ _,.i i],[])=>((A.length:Int)-i).toNat
 | _=>0
theorem sPb:∀ s r,pPb s=true->(fPb s).run=some r->r.1 ≠ .normal/\(Al Tryz.prog TPC 60 41 (Ao Tryz.f41 4) [0,1,5] [4] (shPb.put s).1 (shPb.put s).2=some r \/
   ∃ s',Al Tryz.prog TPC 60 41 (Ao Tryz.f41 4) [0,1,5] [4] (shPb.put s).1 (shPb.put s).2=some (.normal,shPb.put s')/\pPb s'=true/\mPb s'<mPb s/\(fPb s').run=some r):=by
 intro s r hp hr
 unfold pPb at hp; split at hp
 ·rename_i f A g B i
  simp only[Bool.and_eq_true,decide_eq_true_eq] at hp
  obtain ⟨h1,h0,h2,h3⟩:=hp
  have hr':=run_br2 hr
  refine ⟨by rw[hr']; cases smW A B i ((A.length:Int)-i).toNat <;> simp,?_⟩
  rw[show shPb.put ([.l f A,.l g B,.i i],[])=shPb.put (lPb f A g B i) from rfl,qPb]
  by_cases hi:i<(A.length:Int)
  ·obtain ⟨m,hm⟩:∃ m,((A.length:Int)-i).toNat=m+1:=⟨((A.length:Int)-i).toNat-1,by omega⟩
   have hm2:((A.length:Int)-(i+1)).toNat=m:=by omega
   rw[hm] at hr'
   simp only[smW] at hr'
   rw[decide_eq_true hi,Am h1 hi,Am (es:=B) h1 (by omega),W_id (n:=i+1) (by omega) (by omega),okB_at h0 h1 hi]
   cases he:smeE (A.getD i.toNat .any) (B.getD i.toNat .any) with
   | false=>rw[he] at hr'; exact .inl (by rw[hr']; rfl)
   | true =>
    rw[he] at hr'
    refine .inr ⟨lPb f A g B (i+1),rfl,by simp only[pPb,Bool.and_eq_true,decide_eq_true_eq]; exact ⟨by omega,h0,h2,h3⟩,by simp only[mPb]; omega,?_⟩
    rw[hr']
    simp only[fPb,hm2,Bool.true_and]
    cases smW A B (i+1) m <;> rfl
  ·rw[decide_eq_false hi]
   rw[show ((A.length:Int)-i).toNat=0 by omega] at hr'
   exact .inl (by rw[hr']; rfl)
 ·cases hp
noncomputable def TPD:Ad:=TPC.addW 41 4 [0,1,5] [] shPb pPb fPb
theorem okTPD:Ab Tryz.prog TPD.env:=
 okTPC.addW (n:=60) Tryz.func41 (show Tryz.f41.body=some (bod Tryz.f41) by kernel_rfl) (show (loops (bod Tryz.f41)).filter (fun b=>rid b==4)=[Ao Tryz.f41 4] by kernel_rfl) [0,1,5] [4] [] shPb mPb sPb
theorem qSW (f:Bool) (A:List PV) (g:Bool) (B:List PV):Ah Tryz.prog TPD 60 41 [.Ac f 44 A,.Ac g 44 B] =
 bif (A.length:Int) != (B.length:Int) then some (bv false) else bif pPb (lPb f A g B 0) then bif smW A B 0 ((A.length:Int)-0).toNat then some (bv true) else some (bv false) else none:=by kernel_rfl
def sameWs (A B:List PV):Bool:=((A.length:Int)==(B.length:Int))&&smW A B 0 A.length
def okSW (A:List PV):Bool:=okB A&&decide (A.length<=1000)
theorem qSW' (f:Bool) (A:List PV) (g:Bool) (B:List PV) (h:okSW A=true):Ah Tryz.prog TPD 60 41 [.Ac f 44 A,.Ac g 44 B]=some (bv (sameWs A B)):=by
 unfold okSW at h
 rw[Bool.and_eq_true,decide_eq_true_eq] at h
 rw[qSW]
 unfold sameWs bne
 cases he:((A.length:Int)==(B.length:Int)) with
 | false=>rfl
 | true =>
  have he':A.length=B.length:=by have:=beq_iff_eq.1 he; omega
  rw[show pPb (lPb f A g B 0)=true by simp only[pPb,Bool.and_eq_true,decide_eq_true_eq]; exact ⟨Int.le_refl _,h.1,h.2,he'⟩,show ((A.length:Int)-0).toNat=A.length by omega]
  cases smW A B 0 A.length <;> rfl
def cSW:List PV->Option (DT PV)
 | [.Ac _ 44 A,.Ac _ 44 B]=>some (.br (okSW A) (.leaf (bv (sameWs A B))) .no)
 | _=>none
theorem eSW:Hx.Enters Tryz.prog 41:=(Aa okTPD (n:=60) (qSW' true [] true [] rfl)).1
theorem oSW (args:List PV) (d:DT PV) (r:PV) (h:cSW args=some d) (hr:d.run=some r):Ak Tryz.prog 41 args r:=by
 unfold cSW at h; split at h
 ·cases h
  obtain ⟨h1,rfl⟩:=Aq hr
  exact (Aa okTPD (n:=60) (qSW' _ _ _ _ h1)).2
 ·cases h
theorem smP_self (A:List PV):∀ (n:Nat) (i:Int),smP A A i n=true
 | 0,_=>rfl
 | n+1,i=>by unfold smP eqP; rw[smP_self A n,beq_self_eq_true,beq_self_eq_true]; rfl
theorem sme_self (e:PV):smeE e e=true:=by
 unfold smeE sme samePt
 rw[smP_self]
 simp only[beq_self_eq_true,Bool.and_self]
theorem smW_self (A:List PV):∀ (n:Nat) (i:Int),smW A A i n=true
 | 0,_=>rfl
 | n+1,i=>by unfold smW; rw[smW_self A n,sme_self]; rfl
theorem sameWs_self (A:List PV):sameWs A A=true:=by unfold sameWs; rw[smW_self,beq_self_eq_true]; rfl
end Go.Hn
/- Network: the reference's Check: what it comes to. -/
namespace Go.Hn
open Go.Hx Go.Hg Go.Proofs
def shA3:Hx.S1:=⟨84,[(0,.Ac 44),(3,I64)],[]⟩
abbrev lA3 (f:Bool) (ws:List PV) (i:Int):LS:=([.l f ws,.i i],[])
def rt84 (c:Int):Option (PX × List PV × List Row):=some (.ret,tm 84 [(2,iv c)],[])
abbrev wWt (e:PV):Int:=(e.cellAt 6).getI
abbrev lA0 (f:Bool) (ws:List PV) (i:Int) (e:PV):LS:=lA1 f ws i 0 (wI e) false (wL e) (wLv e) ((e.cellAt 3).getS) ((e.cellAt 4).getS) ((e.cellAt 5).getB) (wWt e) ((e.cellAt 7).getI)
theorem qA3 (f:Bool) (ws:List PV) (i:Int):Al Tryz.prog X2 60 16 (Ao Tryz.f16 4) [0,3] [2] (shA3.put (lA3 f ws i)).1 (shA3.put (lA3 f ws i)).2 =
 bif decide (i<(ws.length:Int)) then bif inr ws i then bif decide (wN ws i<1) then rt84 1 else
  bif pA1 (lA0 f ws i (ws.getD i.toNat .any)) then bif anyI ws (wN ws i) 0 (i-0).toNat then rt84 6 else
  bif chk (wL (ws.getD i.toNat .any)) != 0 then rt84 (chk (wL (ws.getD i.toNat .any))) else
  bif decide (wLv (ws.getD i.toNat .any) < -2) then rt84 3 else bif decide (wLv (ws.getD i.toNat .any) > 2) then rt84 3 else bif decide (wWt (ws.getD i.toNat .any)<1) then rt84 3 else bif decide (wWt (ws.getD i.toNat .any) > 255) then rt84 3 else
  bif pA2 (lA0 f ws i (ws.getD i.toNat .any)) then bif anyC ws (wLv (ws.getD i.toNat .any)) (wL (ws.getD i.toNat .any)) 0 (i-0).toNat then rt84 16 else some (.normal,shA3.put (lA3 f ws (W (i+1)))) else none else none else none
 else some (.exit 0,tm 84 [],[]):=by kernel_rfl
def rngB (e:PV):Bool:=decide (wLv e < -2)||(decide (wLv e > 2)||(decide (wWt e<1)||decide (wWt e > 255)))
def errW (ws:List PV) (i:Int):Int:=
 bif decide (wN ws i<1) then 1 else bif anyI ws (wN ws i) 0 i.toNat then 6 else bif chk (wL (ws.getD i.toNat .any)) != 0 then chk (wL (ws.getD i.toNat .any)) else bif rngB (ws.getD i.toNat .any) then 3 else
 bif anyC ws (wLv (ws.getD i.toNat .any)) (wL (ws.getD i.toNat .any)) 0 i.toNat then 16 else 0
def errF (ws:List PV):Int->Nat->Int
 | _,0=>0
 | i,n+1=>bif errW ws i != 0 then errW ws i else errF ws (i+1) n
def pA3:LS->Bool
 | ([.l _ ws,.i i],[])=>decide (0<=i)&&okB ws
 | _=>false
def fA3:LS->DT (PX × List PV × List Row)
 | ([.l _ ws,.i i],[])=>.br (errF ws i ((ws.length:Int)-i).toNat==0) (.leaf (.exit 0,tm 84 [],[])) (.leaf (.ret,tm 84 [(2,iv (errF ws i ((ws.length:Int)-i).toNat))],[]))
 | _=>.no
def mA3:LS->Nat
 | ([.l _ ws,.i i],[])=>((ws.length:Int)-i).toNat
 | _=>0
theorem rnd3 {ws:List PV} (f:Bool) {i:Int} (h1:0<=i) (hi:i<(ws.length:Int)) (h7:okB ws=true) {α:Type} (rt:Int->α) (nx:α) (e:PV) (he:e=ws.getD i.toNat .any):
 (bif decide (wI e<1) then rt 1 else
  bif pA1 (lA0 f ws i e) then bif anyI ws (wI e) 0 (i-0).toNat then rt 6 else
  bif chk (wL e) != 0 then rt (chk (wL e)) else
  bif decide (wLv e < -2) then rt 3 else bif decide (wLv e > 2) then rt 3 else bif decide (wWt e<1) then rt 3 else bif decide (wWt e > 255) then rt 3 else
  bif pA2 (lA0 f ws i e) then bif anyC ws (wLv e) (wL e) 0 (i-0).toNat then rt 16 else nx else rt 77 else rt 77)=bif errW ws i != 0 then rt (errW ws i) else nx:=by
 have hb:=okB_len h7
 have hbg:big (wL e)=true:=by
  have:=okB_at h7 h1 hi
  rw[<- he] at this
  exact this
 rw[show pA1 (lA0 f ws i e)=true by simp only[pA1,Bool.and_eq_true,decide_eq_true_eq]; exact ⟨⟨Int.le_refl _,hi⟩,by omega⟩,
  show pA2 (lA0 f ws i e)=true by simp only[pA2,Bool.and_eq_true,decide_eq_true_eq]; exact ⟨⟨⟨Int.le_refl _,hi⟩,h7⟩,by simpa using hbg⟩,show (i-0).toNat=i.toNat by omega]
 unfold errW rngB wN
 rw[<- he]
 cases decide (wI e<1) <;> cases anyI ws (wI e) 0 i.toNat <;> cases hc:(chk (wL e) != 0) <;> cases decide (wLv e < -2) <;> cases decide (wLv e > 2) <;> cases decide (wWt e<1) <;> cases decide (wWt e > 255) <;> cases anyC ws (wLv e) (wL e) 0 i.toNat <;> simp[hc]
theorem sA3:∀ s r,pA3 s=true->(fA3 s).run=some r->r.1 ≠ .normal/\(Al Tryz.prog X2 60 16 (Ao Tryz.f16 4) [0,3] [2] (shA3.put s).1 (shA3.put s).2=some r \/
   ∃ s',Al Tryz.prog X2 60 16 (Ao Tryz.f16 4) [0,3] [2] (shA3.put s).1 (shA3.put s).2=some (.normal,shA3.put s')/\pA3 s'=true/\mA3 s'<mA3 s/\(fA3 s').run=some r):=by
 intro t r hp hr
 unfold pA3 at hp; split at hp
 ·rename_i f ws i
  simp only[Bool.and_eq_true,decide_eq_true_eq] at hp
  obtain ⟨h1,h7⟩:=hp
  have hr':=run_br2 hr
  have hb:=okB_len h7
  refine ⟨by rw[hr']; cases (errF ws i ((ws.length:Int)-i).toNat==0) <;> simp,?_⟩
  rw[show shA3.put ([.l f ws,.i i],[])=shA3.put (lA3 f ws i) from rfl,qA3]
  by_cases hi:i<(ws.length:Int)
  ·rw[decide_eq_true hi,cond_true,Am h1 hi,cond_true,W_id (n:=i+1) (by omega) (by omega)]
   obtain ⟨m,hm⟩:∃ m,((ws.length:Int)-i).toNat=m+1:=⟨((ws.length:Int)-i).toNat-1,by omega⟩
   have hm2:((ws.length:Int)-(i+1)).toNat=m:=by omega
   rw[hm] at hr'
   simp only[errF] at hr'
   have key:=rnd3 f h1 hi h7 rt84 (some (PX.normal,shA3.put (lA3 f ws (i+1)))) (ws.getD i.toNat .any) rfl
   have hp1:pA1 (lA0 f ws i (ws.getD i.toNat .any))=true:=by simp only[pA1,Bool.and_eq_true,decide_eq_true_eq]; exact ⟨⟨Int.le_refl _,hi⟩,by omega⟩
   have hp2:pA2 (lA0 f ws i (ws.getD i.toNat .any))=true:=by
    simp only[pA2,Bool.and_eq_true,decide_eq_true_eq]
    have:=okB_at h7 h1 hi
    exact ⟨⟨⟨Int.le_refl _,hi⟩,h7⟩,by simpa using this⟩
   rw[hp1,hp2] at key ⊢
   simp only[cond_true] at key ⊢
   unfold wN at *
   rw[key]
   cases hc:errW ws i != 0 with
   | true =>
    rw[hc] at hr'
    simp only[cond_true] at hr'
    rw[show (errW ws i==0)=false by rw[bne] at hc; simpa using hc] at hr'
    exact .inl (by rw[hr']; rfl)
   | false =>
    rw[hc] at hr'
    refine .inr ⟨lA3 f ws (i+1),rfl,by simp only[pA3,Bool.and_eq_true,decide_eq_true_eq]; exact ⟨by omega,h7⟩,by simp only[mA3]; omega,?_⟩
    rw[hr']
    simp only[fA3,hm2,cond_false]
    cases (errF ws (i+1) m==0) <;> rfl
  ·rw[decide_eq_false hi]
   rw[show ((ws.length:Int)-i).toNat=0 by omega] at hr'
   exact .inl (by rw[hr']; rfl)
 ·cases hp
noncomputable def X3:Ad:=X2.addW 16 4 [0,3] [] shA3 pA3 fA3
theorem okX3:Ab Tryz.prog X3.env:=
 okX2.addW (n:=60) Tryz.func16 (show Tryz.f16.body=some (bod Tryz.f16) by kernel_rfl) (show (loops (bod Tryz.f16)).filter (fun b=>rid b==4)=[Ao Tryz.f16 4] by kernel_rfl) [0,3] [2] [] shA3 mA3 sA3
def chkF (ws:List PV):Int:=bif decide ((ws.length:Int) > 80) then 2 else errF ws 0 ws.length
theorem qRChk (f:Bool) (ws:List PV):Ah Tryz.prog X3 60 16 [.Ac f 44 ws] =
 bif decide ((ws.length:Int) > 80) then some (iv 2) else bif pA3 (lA3 f ws 0) then bif errF ws 0 ((ws.length:Int)-0).toNat==0 then some (iv 0) else some (iv (errF ws 0 ((ws.length:Int)-0).toNat)) else none:=by kernel_rfl
theorem qRChk' (f:Bool) (ws:List PV) (h:okB ws=true):Ah Tryz.prog X3 60 16 [.Ac f 44 ws]=some (iv (chkF ws)):=by
 rw[qRChk,show pA3 (lA3 f ws 0)=true by simp only[pA3,h]; rfl,show ((ws.length:Int)-0).toNat=ws.length by omega]
 unfold chkF
 cases decide ((ws.length:Int) > 80)
 ·simp only[cond_false,cond_true]
  cases hc:errF ws 0 ws.length==0
  ·rfl
  ·rw[beq_iff_eq] at hc; rw[hc]; rfl
 ·rfl
def cChW:List PV->Option (DT PV)
 | [.Ac _ 44 ws]=>some (.br (okB ws) (.leaf (iv (chkF ws))) .no)
 | _=>none
theorem eRChW:Hx.Enters Tryz.prog 16:=(Aa okX3 (n:=60) (qRChk' true [] rfl)).1
theorem oRChW (args:List PV) (d:DT PV) (r:PV) (h:cChW args=some d) (hr:d.run=some r):Ak Tryz.prog 16 args r:=by
 unfold cChW at h; split at h
 ·cases h
  obtain ⟨h1,rfl⟩:=Aq hr
  exact (Aa okX3 (n:=60) (qRChk' _ _ h1)).2
 ·cases h
end Go.Hn
/- Network: fine ways: made ones without those that would make a network wrong. -/
namespace Go.Hn
open Go.Hx Go.Hg Go.Proofs
noncomputable def Y0:Ad:=((((((X0.Ag 20 cSt2).Ag 22 cJnd).addO 11 cMade).Ag 16 cChW))).addN 12 4 [(4,44,0)]
theorem okY0:Ab Tryz.prog Y0.env:=((((((okX0.Ag eSt2 oSt2).Ag eJnd oJnd).addO oMade).Ag eRChW oRChW))).addN 12 4 [(4,44,0)]
def wvE (e:PV):PV:=.agg [iv (wI e),.Ac false 37 (wL e),iv (wLv e),.val (.string ((e.cellAt 3).getS)),.val (.string ((e.cellAt 4).getS)),bv ((e.cellAt 5).getB),iv (wWt e),iv ((e.cellAt 7).getI)]
def shQ:Hx.S1:=⟨29,[(3,.Ac 44),(4,.Ac 44),(5,I64)],[]⟩
abbrev lQ (f:Bool) (vs:List PV) (g:Bool) (es:List PV) (i:Int):LS:=([.l f vs,.l g es,.i i],[])
def nxQ (vs es:List PV) (i:Int):List PV:=((es++[wvE (vs.getD i.toNat .any)]).drop 0).take (0+es.length+1)
def rmQ (vs es:List PV) (i:Int) {α:Type} (k:Option α):Option α:=bif (es++[wvE (vs.getD i.toNat .any)]).length==0+es.length+1 then k else none
theorem qQ (f:Bool) (vs:List PV) (g:Bool) (es:List PV) (i:Int):Al Tryz.prog Y0 60 12 (Ao Tryz.f12 4) [3,4,5] [4] (shQ.put (lQ f vs g es i)).1 (shQ.put (lQ f vs g es i)).2 =
 bif decide (i<(vs.length:Int)) then bif decide ((0+es.length)*96<=140737488355328) then bif inr vs i then
  bif decide (es.length=0+es.length)&&decide (0+es.length=0+es.length)&&decide ((0+es.length+1)*96<=140737488355328) then rmQ vs es i (bif okB (nxQ vs es i) then
   bif chkF (nxQ vs es i)==0 then rmQ vs es i (some (.normal,shQ.put (lQ f vs false (nxQ vs es i) (W (i+1))))) else some (.normal,shQ.put (lQ f vs g es (W (i+1)))) else none) else none else none else none
 else some (.exit 0,tm 29 [(4,.Ac g 44 es)],[]):=by kernel_rfl
end Go.Hn
/- Network: fine ways as a contract; facts. -/
namespace Go.Hn
open Go.Hx Go.Hg Go.Proofs
def fqS (es:List PV) (e:PV):List PV:=bif chkF (es++[wvE e])==0 then es++[wvE e] else es
def fq (vs:List PV):Int->Nat->List PV->List PV
 | _,0,es=>es
 | i,n+1,es=>fq vs (i+1) n (fqS es (vs.getD i.toNat .any))
theorem okB_add {es:List PV} {e:PV} (h:okB es=true) (hl:es.length<=999999) (he:(wL e).length<=1000000):okB (es++[wvE e])=true:=by
 unfold okB at *
 rw[Bool.and_eq_true,List.all_eq_true,decide_eq_true_eq] at *
 refine ⟨by simp; omega,fun x hx => ?_⟩
 rcases List.mem_append.1 hx with hx | hx
 ·exact h.2 x hx
 ·rw[List.mem_singleton] at hx
  subst hx
  rw[decide_eq_true_eq]; exact he
def pQ:LS->Bool
 | ([.l _ vs,.l g es,.i i],[]) => !g&&decide (0<=i)&&decide ((es.length:Int)<=i)&&decide (vs.length<=1000)&&okB vs&&okB es&&decide (es.length<=1000)
 | _=>false
def fQ:LS->DT (PX × List PV × List Row)
 | ([.l _ vs,.l _ es,.i i],[])=>.leaf (.exit 0,tm 29 [(4,.Ac false 44 (fq vs i ((vs.length:Int)-i).toNat es))],[])
 | _=>.no
def mQ:LS->Nat
 | ([.l _ vs,.l _ _,.i i],[])=>((vs.length:Int)-i).toNat
 | _=>0
theorem sQ:∀ s r,pQ s=true->(fQ s).run=some r->r.1 ≠ .normal/\(Al Tryz.prog Y0 60 12 (Ao Tryz.f12 4) [3,4,5] [4] (shQ.put s).1 (shQ.put s).2=some r \/
   ∃ s',Al Tryz.prog Y0 60 12 (Ao Tryz.f12 4) [3,4,5] [4] (shQ.put s).1 (shQ.put s).2=some (.normal,shQ.put s')/\pQ s'=true/\mQ s'<mQ s/\(fQ s').run=some r):=by
 intro t r hp hr
 unfold pQ at hp; split at hp
 ·rename_i f vs g es i
  simp only[Bool.and_eq_true,decide_eq_true_eq,Bool.not_eq_true'] at hp
  obtain ⟨⟨⟨⟨⟨⟨rfl,h1⟩,h2⟩,h3⟩,h4⟩,h5⟩,h6⟩:=hp
  have hr':=(Option.some.inj hr).symm
  refine ⟨by rw[hr']; simp,?_⟩
  rw[show shQ.put ([.l f vs,.l false es,.i i],[])=shQ.put (lQ f vs false es i) from rfl,qQ]
  by_cases hi:i<(vs.length:Int)
  ·obtain ⟨m,hm⟩:∃ m,((vs.length:Int)-i).toNat=m+1:=⟨((vs.length:Int)-i).toNat-1,by omega⟩
   have hm2:((vs.length:Int)-(i+1)).toNat=m:=by omega
   rw[hm] at hr'
   simp only[fq] at hr'
   have hN:nxQ vs es i=es++[wvE (vs.getD i.toNat .any)]:=by
    unfold nxQ
    rw[List.drop_zero,List.take_of_length_le (by rw[List.length_append,List.length_singleton]; omega)]
   have hR:∀ {α:Type} (k:Option α),rmQ vs es i k=k:=fun k=>by
    unfold rmQ
    rw[show (es++[wvE (vs.getD i.toNat .any)]).length=0+es.length+1 by simp,beq_self_eq_true]; rfl
   have hO:okB (es++[wvE (vs.getD i.toNat .any)])=true:=okB_add h5 (by omega) (of_decide_eq_true (okB_at h4 h1 hi))
   rw[decide_eq_true hi,cond_true,W_id (n:=i+1) (by omega) (by omega),decide_eq_true (show (0+es.length)*96<=140737488355328 by omega),Am h1 hi,decide_eq_true (show es.length=0+es.length by omega),decide_eq_true rfl,decide_eq_true (show (0+es.length+1)*96<=140737488355328 by omega)]
   simp only[Bool.and_self,cond_true,hR]
   rw[hN,hO,cond_true]
   unfold fqS at hr'
   right
   cases hc:chkF (es++[wvE (vs.getD i.toNat .any)])==0 with
   | true =>
    rw[hc] at hr'
    refine ⟨lQ f vs false (es++[wvE (vs.getD i.toNat .any)]) (i+1),rfl,by simp only[pQ,Bool.and_eq_true,decide_eq_true_eq,Bool.not_eq_true',List.length_append,List.length_cons,List.length_nil]; exact ⟨⟨⟨⟨⟨⟨trivial,by omega⟩,by omega⟩,h3⟩,h4⟩,hO⟩,by omega⟩,by simp only[mQ]; omega,?_⟩
    rw[hr']; simp only[fQ,hm2]; rfl
   | false =>
    rw[hc] at hr'
    refine ⟨lQ f vs false es (i+1),rfl,by simp only[pQ,Bool.and_eq_true,decide_eq_true_eq,Bool.not_eq_true']; exact ⟨⟨⟨⟨⟨⟨trivial,by omega⟩,by omega⟩,h3⟩,h4⟩,h5⟩,h6⟩,by simp only[mQ]; omega,?_⟩
    rw[hr']; simp only[fQ,hm2]; rfl
  ·rw[decide_eq_false hi]
   rw[show ((vs.length:Int)-i).toNat=0 by omega] at hr'
   exact .inl (by rw[hr']; rfl)
 ·cases hp
noncomputable def Y1:Ad:=Y0.addW 12 4 [3,4,5] [] shQ pQ fQ
theorem okY1:Ab Tryz.prog Y1.env:=
 okY0.addW (n:=60) Tryz.func12 (show Tryz.f12.body=some (bod Tryz.f12) by kernel_rfl) (show (loops (bod Tryz.f12)).filter (fun b=>rid b==4)=[Ao Tryz.f12 4] by kernel_rfl) [3,4,5] [4] [] shQ mQ sQ
theorem qFine (f:Bool) (L:List PV):Ah Tryz.prog Y1 60 12 [.Ac f 3 L] =
 bif pQ (lQ false (madeW L) false [] 0) then some (.Ac false 44 (fq (madeW L) 0 (((madeW L).length:Int)-0).toNat [])) else none:=by kernel_rfl
def fineW (L:List PV):List PV:=fq (madeW L) 0 (madeW L).length []
theorem qFine' (f:Bool) (L:List PV):Ah Tryz.prog Y1 60 12 [.Ac f 3 L]=some (.Ac false 44 (fineW L)):=by
 have hl:=madeW_len L
 rw[qFine,show pQ (lQ false (madeW L) false [] 0)=true by simp only[pQ,Bool.and_eq_true,decide_eq_true_eq]; exact ⟨⟨⟨⟨⟨⟨rfl,Int.le_refl _⟩,Int.le_refl _⟩,by omega⟩,made_okB L⟩,rfl⟩,by decide⟩,show (((madeW L).length:Int)-0).toNat=(madeW L).length by omega]
 rfl
def cFine:List PV->Option PV
 | [.Ac _ 3 L]=>some (.Ac false 44 (fineW L))
 | _=>none
theorem oFine (args:List PV) (r:PV) (h:cFine args=some r):Hx.Enters Tryz.prog 12/\Ak Tryz.prog 12 args r:=by
 unfold cFine at h; split at h
 ·cases h; exact Aa okY1 (n:=60) (qFine' _ _)
 ·cases h
theorem wvE_mW (L:List PV) (k a:Int):wvE (mW L k a)=mW L k a:=rfl
theorem fq_facts {vs:List PV} (hv:∀ e ∈ vs,wvE e=e):∀ (n i:Nat) (es:List PV),i+n=vs.length->chkF es=0->∃ ds:List PV,fq vs (i:Int) n es=es++ds/\ds.Sublist (vs.drop i)/\chkF (fq vs (i:Int) n es)=0
 | 0,i,es,hn,h=>⟨[],by simp[fq],List.nil_sublist _,h⟩
 | n+1,i,es,hn,h=>by
  have hi:i<vs.length:=by omega
  have hg:vs.getD (i:Int).toNat .any=vs[i]:=by rw[Int.toNat_natCast,List.getD_eq_getElem?_getD,List.getElem?_eq_getElem hi]; rfl
  unfold fq
  rw[hg,List.drop_eq_getElem_cons hi,show (i:Int)+1=((i+1:Nat):Int) by omega]
  unfold fqS
  rw[hv _ (List.getElem_mem hi)]
  cases hc:chkF (es++[vs[i]])==0 with
  | true =>
   obtain ⟨ds,h1,h2,h3⟩:=fq_facts hv n (i+1) (es++[vs[i]]) (by omega) (by simpa using hc)
   refine ⟨vs[i]::ds,?_,h2.cons_cons _,h3⟩
   rw[cond_true,h1]; simp
  | false =>
   obtain ⟨ds,h1,h2,h3⟩:=fq_facts hv n (i+1) es (by omega) h
   exact ⟨ds,h1,h2.cons _,h3⟩
theorem fine_facts (L:List PV):(fineW L).Sublist (madeW L)/\chkF (fineW L)=0:=by
 obtain ⟨ds,h1,h2,h3⟩:=fq_facts (vs:=madeW L) (fun e he=>by obtain ⟨k,a,_,_,rfl⟩:=made_mem he; exact wvE_mW L k a) (madeW L).length 0 [] (by omega) rfl
 unfold fineW
 refine ⟨?_,h3⟩
 have h1:fq (madeW L) 0 (madeW L).length []=[]++ds:=h1
 rw[h1]
 simpa using h2
theorem fine_okW (L:List PV):okW (fineW L)=true:=by
 obtain ⟨h1,h2⟩:=okW_iff (made_okW L)
 have hs:=(fine_facts L).1
 unfold okW
 simp only[Bool.and_eq_true,decide_eq_true_eq,List.all_eq_true]
 exact ⟨Nat.le_trans hs.length_le h1,fun e he=>h2 e (hs.subset he)⟩
theorem fine_okB (L:List PV):okB (fineW L)=true:=by
 have h:=made_okB L
 have hs:=(fine_facts L).1
 unfold okB at *
 rw[Bool.and_eq_true,List.all_eq_true,decide_eq_true_eq] at *
 exact ⟨Nat.le_trans hs.length_le h.1,fun e he=>h.2 e (hs.subset he)⟩
end Go.Hn
/- Thin: the reference's Fine, where its result is a row (as Made needs it): rounds. -/
namespace Go.Hn
open Go.Hx Go.Hg Go.Proofs
noncomputable def TM0:Ad:=(((X0.addO 11 cMade).Ag 16 cChW).addN 12 4 [(4,44,8)]).addK 12
theorem okTM0:Ab Tryz.prog TM0.env:=(((okX0.addO oMade).Ag eRChW oRChW).addN 12 4 [(4,44,8)]).addK 12
abbrev mR:Row:={ es:=[.val (.agg #[.slice none 0 0,.slice none 0 0,.slice none 0 0,.slice none 0 0])],s:=4,t:=65,bv:=false }
abbrev nR:Row:={ es:=[],s:=8,t:=44,bv:=true,nl:=true }
abbrev wR (es:List PV):Row:={ es,s:=8,t:=44,bv:=true }
def keepF (S:List PV) (_:List Row):List Nat:=match S.getD 4 .any with | .sl 0 _ _ _=>[0,1] | .sl 1 _ _ _=>[0,1] | .sl i _ _ _=>[0,1,i] | _=>[0,1]
def SA (f:Bool) (vs:List PV) (i:Int):List PV:=tm 29 [(3,.Ac f 44 vs),(4,.sl 1 0 0 0),(5,iv i)]
def SB (f:Bool) (vs:List PV) (n:Nat) (i:Int):List PV:=tm 29 [(3,.Ac f 44 vs),(4,.sl 2 n 0 n),(5,iv i)]
noncomputable def rdF (S:List PV) (H:List Row):Option (PX × List PV × List Row):=runG Tryz.prog TM0 80 12 (Ao Tryz.f12 4) 2 [3,4,5] [4] keepF S H
def nxA (vs:List PV) (i:Int):List PV:=[wvE (vs.getD i.toNat .any)]
theorem qFA (f:Bool) (vs:List PV) (i:Int):rdF (SA f vs i) [mR,nR] =
 bif decide (i<(vs.length:Int)) then bif inr vs i then bif okB (nxA vs i) then bif chkF (nxA vs i)==0 then some (.normal,SB f vs 1 (W (i+1)),[mR,nR,wR (nxA vs i)]) else some (.normal,SA f vs (W (i+1)),[mR,nR]) else none else none
 else some (.exit 0,tm 29 [(4,.sl 1 0 0 0)],[mR,nR]):=by kernel_rfl
def tkB (es:List PV) (n:Nat):List PV:=(es.drop 0).take n
def nxR (vs es:List PV) (n:Nat) (i:Int):List PV:=([]++tkB es n)++[wvE (vs.getD i.toNat .any)]
def nxB (vs es:List PV) (n:Nat) (i:Int):List PV:=((nxR vs es n i).drop 0).take (0+(tkB es n).length+1)
theorem qFB (f:Bool) (vs:List PV) (n:Nat) (es:List PV) (i:Int):rdF (SB f vs n i) [mR,nR,wR es] =
 bif decide (i<(vs.length:Int)) then bif es.length==n then bif decide ((0+(tkB es n).length)*96<=140737488355328) then bif inr vs i then
  bif decide (([]++tkB es n).length=0+(tkB es n).length)&&decide (0+(tkB es n).length=0+(tkB es n).length)&&decide ((0+(tkB es n).length+1)*96<=140737488355328) then bif (nxR vs es n i).length==0+(tkB es n).length+1 then
  bif okB (nxB vs es n i) then bif chkF (nxB vs es n i)==0 then some (.normal,SB f vs (0+(tkB es n).length+1) (W (i+1)),[mR,nR,wR (nxR vs es n i)]) else some (.normal,SB f vs n (W (i+1)),[mR,nR,wR es])
  else none else none else none else none else none else none
 else some (.exit 0,tm 29 [(4,.sl 2 n 0 n)],[mR,nR,wR es]):=by kernel_rfl
end Go.Hn
/- Thin: the reference's Fine, where its result is a row: its loop as a contract. -/
namespace Go.Hn
open Go.Hx Go.Hg Go.Proofs
def stS (f:Bool) (vs es:List PV) (i:Int):List PV:=bif es.isEmpty then SA f vs i else SB f vs es.length i
def stH (es:List PV):List Row:=bif es.isEmpty then [mR,nR] else [mR,nR,wR es]
def xiS (es:List PV):List PV:=bif es.isEmpty then tm 29 [(4,.sl 1 0 0 0)] else tm 29 [(4,.sl 2 es.length 0 es.length)]
theorem rdF_stop {f:Bool} {vs es:List PV} {i:Int} (h:¬ i<(vs.length:Int)):rdF (stS f vs es i) (stH es)=some (.exit 0,xiS es,stH es):=by
 cases es with
 | nil=>show rdF (SA f vs i) [mR,nR]=_; rw[qFA,decide_eq_false h]; rfl
 | cons e es=>show rdF (SB f vs (e::es).length i) [mR,nR,wR (e::es)]=_; rw[qFB,decide_eq_false h]; rfl
theorem rdF_go {f:Bool} {vs es:List PV} {i:Int} (h0:0<=i) (h:i<(vs.length:Int)) (hv:okB vs=true) (he:okB es=true) (hl:es.length<=1000) (hn:vs.length<=1000):
  rdF (stS f vs es i) (stH es)=some (.normal,stS f vs (fqS es (vs.getD i.toNat .any)) (i+1),stH (fqS es (vs.getD i.toNat .any)))/\okB (fqS es (vs.getD i.toNat .any))=true/\(fqS es (vs.getD i.toNat .any)).length<=es.length+1:=by
 have hb:=okB_at hv h0 h
 have ha:=okB_add (e:=vs.getD i.toNat .any) he (by omega) (of_decide_eq_true hb)
 refine ⟨?_,by unfold fqS; cases chkF (es++[wvE (vs.getD i.toNat .any)])==0 <;> assumption,by unfold fqS; cases chkF (es++[wvE (vs.getD i.toNat .any)])==0 <;> simp⟩
 unfold fqS
 cases es with
 | nil =>
  show rdF (SA f vs i) [mR,nR]=_
  have e1:nxA vs i=[]++[wvE (vs.getD i.toNat .any)]:=rfl
  rw[qFA,decide_eq_true h,Am h0 h,e1,ha,W_id (n:=i+1) (by omega) (by omega)]
  cases chkF ([]++[wvE (vs.getD i.toNat .any)])==0 <;> rfl
 | cons e es =>
  show rdF (SB f vs (e::es).length i) [mR,nR,wR (e::es)]=_
  generalize hq:e::es=qs at *
  have hne:qs.isEmpty=false:=by rw[<- hq]; rfl
  have t1:tkB qs qs.length=qs:=by unfold tkB; rw[List.drop_zero,List.take_length]
  have t2:nxR vs qs qs.length i=qs++[wvE (vs.getD i.toNat .any)]:=by unfold nxR; rw[t1,List.nil_append]
  have t3:nxB vs qs qs.length i=qs++[wvE (vs.getD i.toNat .any)]:=by
   unfold nxB
   rw[t2,t1,List.drop_zero,List.take_of_length_le (by simp)]
  have hl2:(qs++[wvE (vs.getD i.toNat .any)]).length=qs.length+1:=by simp
  have c1:decide ((0+qs.length)*96<=140737488355328)=true:=by simp; omega
  have c3:(decide (([]++qs).length=0+qs.length)&&decide (0+qs.length=0+qs.length)&&decide ((0+qs.length+1)*96<=140737488355328))=true:=by simp; omega
  rw[qFB,t2,t3,t1,decide_eq_true h,beq_self_eq_true,c1,Am h0 h,c3,hl2,Nat.zero_add,beq_self_eq_true,ha,W_id (n:=i+1) (by omega) (by omega)]
  have hne2:(qs++[wvE (vs.getD i.toNat .any)]).isEmpty=false:=by rw[<- hq]; rfl
  simp only[cond_true]
  cases chkF (qs++[wvE (vs.getD i.toNat .any)])==0 with
  | true=>simp only[cond_true]; unfold stS stH; rw[hne2,hl2]; rfl
  | false=>simp only[cond_false]; unfold stS stH; rw[hne]; rfl
theorem allF {f:Bool} {vs:List PV} (hv:okB vs=true) (hn:vs.length<=900) (hsub:SubCode Tryz.prog 12 (Ao Tryz.f12 4)):∀ (k:Nat) (i:Int) (es:List PV),0<=i->i+k=(vs.length:Int)->okB es=true->(es.length:Int)<=i ->
  RndsG Tryz.prog (Ao Tryz.f12 4) 2 (.exit 0) (xiS (fq vs i k es)) (stH (fq vs i k es)) (stS f vs es i) (stH es)
 | 0,i,es,h0,h1,_,_=>runG_stop okTM0 hsub (by simp) (rdF_stop (by omega))
 | k+1,i,es,h0,h1,he,hl=>by
  obtain ⟨g1,g2,g3⟩:=rdF_go (f:=f) h0 (by omega) hv he (by omega) (by omega)
  refine runG_go okTM0 hsub g1 ?_
  unfold fq
  exact allF hv hn hsub k (i+1) _ (by omega) (by omega) g2 (by omega)
def rowM:Row->Bool
 | ⟨[.val (.agg ⟨[.slice none 0 0,.slice none 0 0,.slice none 0 0,.slice none 0 0]⟩)],4,65,false,true,false,none,false⟩=>true
 | _=>false
theorem rowM_eq {r:Row} (h:rowM r=true):r=mR:=by
 unfold rowM at h; split at h
 ·rfl
 ·cases h
def rowN:Row->Bool
 | ⟨[],8,44,true,true,true,none,false⟩=>true
 | _=>false
theorem rowN_eq {r:Row} (h:rowN r=true):r=nR:=by
 unfold rowN at h; split at h
 ·rfl
 ·cases h
def cFn:Nat->List PV->List Row->Option (DT (PX × List PV × List Row))
 | 0,S,[r0,r1] =>
  match S.getD 3 .any,S.getD 4 .any,S.getD 5 .any,rowM r0,rowN r1,tmB 29 [3,4,5] S with
  | .Ac _ 44 vs,.sl 1 0 0 0,.val (.int .i64 0),true,true,true =>
   some (.br (okB vs&&decide (vs.length<=900)) (.br (fq vs 0 vs.length []).isEmpty (.leaf (.exit 0,tm 29 [(4,.sl 1 0 0 0)],[mR,nR])) (.leaf (.exit 0,tm 29 [(4,.sl 2 (fq vs 0 vs.length []).length 0 (fq vs 0 vs.length []).length)],[mR,nR,wR (fq vs 0 vs.length [])]))) .no)
  | _,_,_,_,_,_=>none
 | _,_,_=>none
theorem oFn (hs:SubCode Tryz.prog 12 (.loop (Ao Tryz.f12 4))) (ro:Nat) (S:List PV) (H:List Row) (d:DT (PX × List PV × List Row)) (x:PX) (S':List PV) (H':List Row) (h:cFn ro S H=some d) (hr:d.run=some (x,S',H')):WpTo Tryz.prog (.loop (Ao Tryz.f12 4)) ro S H x S' H':=by
 unfold cFn at h
 split at h
 ·rename_i S r0 r1
  split at h
  ·rename_i f vs e3 e4 e5 hM hN ht
   cases h
   obtain ⟨h1,h2⟩:=dt_br2 hr
   simp only[Bool.and_eq_true,decide_eq_true_eq] at h1
   have key:=allF (f:=f) h1.1 h1.2 (hs.sub (.loop .here)) vs.length 0 [] (Int.le_refl _) (by omega) rfl (Int.le_refl _)
   rw[rowM_eq hM,rowN_eq hN,tmB_eq ht]
   simp only[List.map_cons,List.map_nil,e3,e4,e5]
   have h3:=run_br2 h2
   have:x=.exit 0/\S'=xiS (fq vs 0 vs.length [])/\H'=stH (fq vs 0 vs.length []):=by
    unfold xiS stH
    cases hE:(fq vs 0 vs.length []).isEmpty <;> rw[hE] at h3 <;> cases h3 <;> exact ⟨rfl,rfl,rfl⟩
   obtain ⟨rfl,rfl,rfl⟩:=this
   exact loopG (H:=[mR,nR]) (by simp) key
  ·cases h
 ·cases h
noncomputable def TN0:Ad:=TM0.addL2 12 4 [3,4,5] cFn
theorem okTN0:Ab Tryz.prog TN0.env:=
 Ab.addL2 okTM0 Tryz.func12 (show Tryz.f12.body=some (bod Tryz.f12) by kernel_rfl) (show (loops (bod Tryz.f12)).filter (fun b=>rid b==4)=[Ao Tryz.f12 4] by kernel_rfl) oFn
end Go.Hn
/- Thin: Made: the names and districts are put in. -/
namespace Go.Hn
open Go.Hx Go.Hg Go.Proofs
abbrev mE:PV:=.val (.agg #[.slice none 0 0,.slice none 0 0,.slice none 0 0,.slice none 0 0])
def shO1:Hx.S1:=⟨44,[(1,.Ac 5),(4,.ptr 0 1 0 0),(5,.sl 2),(6,I64)],[.onef 65 4 .pv,.many 44 8,.many 44 8]⟩
abbrev lO1 (g:Bool) (nm:List PV) (n l:Nat) (i:Int) (q:PV) (e0:List PV) (nl:Bool) (es:List PV):LS:=([.l g nm,.n n,.n l,.i i],[.p q,.l true e0,.l nl es])
def nmE (s:ByteArray) (e:PV):PV:=.agg [iv (wI e),.Ac false 37 (wL e),iv (wLv e),.val (.string ((e.cellAt 3).getS)),.val (.string s),bv ((e.cellAt 5).getB),iv ((e.cellAt 6).getI),iv ((e.cellAt 7).getI)]
def dsE (d:Int) (e:PV):PV:=.agg [iv (wI e),.Ac false 37 (wL e),iv (wLv e),.val (.string ((e.cellAt 3).getS)),.val (.string ((e.cellAt 4).getS)),bv ((e.cellAt 5).getB),iv ((e.cellAt 6).getI),iv d]
def nmRow:List PV:=[.val (.string (ByteArray.mk #[])),.val (.string (ByteArray.mk #[])),.val (.string (ByteArray.mk #[65])),.val (.string (ByteArray.mk #[65])),.val (.string (ByteArray.mk #[66]))]
def nmS (v:Int):ByteArray:=((nmRow.getD (0+(Int.tmod v 5).toNat) .any).cellAt 0).getS
def dsV (v:Int):Int:=W (1+Int.tmod (W (Int.tdiv v 5)) 2)
def esN (es:List PV) (i v:Int):List PV:=es.set (0+i.toNat) (nmE (nmS v) (rE es i))
def esD (es:List PV) (i v:Int):List PV:=(esN es i v).set (0+i.toNat) (dsE (dsV v) (rE (esN es i v) i))
def bodO (es:List PV) (n l:Nat) (i v:Int) (k:Option (PX × List PV × List Row)):Option (PX × List PV × List Row):=
 bif decide (0<=Int.tmod v 5)&&decide (Int.tmod v 5<5) then ixR es n l i (ldR es n (stC es n (ixR (esN es i v) n l i (ldR (esN es i v) n (stC (esN es i v) n k))))) else none
theorem qO1 (g:Bool) (nm:List PV) (n l:Nat) (i:Int) (e0:List PV) (nl:Bool) (es:List PV):Al Tryz.prog TN0 60 33 (Ao Tryz.f33 3) [1,4,5,6] [4,5] (shO1.put (lO1 g nm n l i mE e0 nl es)).1 (shO1.put (lO1 g nm n l i mE e0 nl es)).2 =
 bif decide (i<(l:Int)) then
  bif decide (i<(nm.length:Int)) then bif inr nm i then bodO es n l i (W ((nm.getD i.toNat .any).cellAt 0).getI) (some (.normal,shO1.put (lO1 g nm n l (W (i+1)) mE e0 nl (esD es i (W ((nm.getD i.toNat .any).cellAt 0).getI))))) else none
  else bodO es n l i 0 (some (.normal,shO1.put (lO1 g nm n l (W (i+1)) mE e0 nl (esD es i 0))))
 else some (.exit 0,tm 44 [(4,.ptr 0 1 0 0),(5,.sl 2 n 0 l)],(shO1.put (lO1 g nm n l i mE e0 nl es)).2):=by kernel_rfl
end Go.Hn
/- Thin: Made as a contract. -/
namespace Go.Hn
open Go.Hx Go.Hg Go.Proofs
def okN (nm:List PV):Bool:=decide (nm.length<=9223372036854775807)&&nm.all fun e=>decide (0<=(e.cellAt 0).getI)&&decide ((e.cellAt 0).getI<=255)
def vO (nm:List PV) (i:Int):Int:=bif decide (i<(nm.length:Int)) then W ((nm.getD i.toNat .any).cellAt 0).getI else 0
theorem vO_range {nm:List PV} (h:okN nm=true) {i:Int} (h0:0<=i):0<=vO nm i/\vO nm i<=255:=by
 unfold vO
 by_cases hi:i<(nm.length:Int)
 ·rw[decide_eq_true hi,cond_true]
  unfold okN at h
  rw[Bool.and_eq_true,List.all_eq_true] at h
  have:=h.2 _ (List.getElem_mem (l:=nm) (n:=i.toNat) (by omega))
  rw[Bool.and_eq_true,decide_eq_true_eq,decide_eq_true_eq] at this
  rw[List.getD_eq_getElem?_getD,List.getElem?_eq_getElem (by omega)]
  show 0<=W ((nm[i.toNat].cellAt 0).getI)/\W ((nm[i.toNat].cellAt 0).getI)<=255
  rw[W_id (by omega) (by omega)]
  exact this
 ·rw[decide_eq_false hi]; simp
def updL (nm:List PV):Int->Nat->List PV->List PV
 | _,0,es=>es
 | i,n+1,es=>updL nm (i+1) n (esD es i (vO nm i))
theorem esD_len (es:List PV) (i v:Int):(esD es i v).length=es.length:=by unfold esD esN; simp
theorem updL_len (nm:List PV):∀ (n:Nat) (i:Int) (es:List PV),(updL nm i n es).length=es.length
 | 0,_,_=>rfl
 | n+1,i,es=>by unfold updL; rw[updL_len nm n,esD_len]
def isME:PV->Bool
 | .val (.agg ⟨[.slice none 0 0,.slice none 0 0,.slice none 0 0,.slice none 0 0]⟩)=>true
 | _=>false
theorem isME_eq {q:PV} (h:isME q=true):q=mE:=by
 unfold isME at h; split at h
 ·rfl
 ·cases h
def pO1:LS->Bool
 | ([.l _ nm,.n n,.n l,.i i],[.p q,.l true _,.l _ es])=>isME q&&decide (0<=i)&&decide (n=es.length)&&decide (l=n)&&decide (es.length<=1000)&&okN nm
 | _=>false
noncomputable def fO1:LS->DT (PX × List PV × List Row)
 | ([.l g nm,.n n,.n l,.i i],[.p _,.l true e0,.l nl es])=>.leaf (.exit 0,tm 44 [(4,.ptr 0 1 0 0),(5,.sl 2 n 0 l)],(shO1.put (lO1 g nm n l i mE e0 nl (updL nm i ((n:Int)-i).toNat es))).2)
 | _=>.no
def mO1:LS->Nat
 | ([.l _ _,.n n,.n _,.i i],[.p _,.l true _,.l _ _])=>((n:Int)-i).toNat
 | _=>0
theorem bodO_eq {es:List PV} {i v:Int} (h0:0<=i) (h1:i<(es.length:Int)) (v0:0<=v) (k:Option (PX × List PV × List Row)):bodO es es.length es.length i v k=k:=by
 have hl:(esN es i v).length=es.length:=by unfold esN; simp
 have t0:0<=Int.tmod v 5:=Int.tmod_nonneg _ v0
 have t1:Int.tmod v 5<5:=Int.tmod_lt_of_pos _ (by omega)
 have st:∀ {es:List PV} {k:Option (PX × List PV × List Row)} {n:Nat},es.length=n->stC es n k=k:=fun {es k n} h=>by unfold stC; rw[h,beq_self_eq_true]; rfl
 unfold bodO
 rw[decide_eq_true t0,decide_eq_true t1,ixR_of rfl h0 h1,ldR_of rfl,st rfl,ixR_of hl h0 h1,ldR_of hl,st hl]
 rfl
theorem sO1:∀ s r,pO1 s=true->(fO1 s).run=some r->r.1 ≠ .normal/\(Al Tryz.prog TN0 60 33 (Ao Tryz.f33 3) [1,4,5,6] [4,5] (shO1.put s).1 (shO1.put s).2=some r \/
   ∃ s',Al Tryz.prog TN0 60 33 (Ao Tryz.f33 3) [1,4,5,6] [4,5] (shO1.put s).1 (shO1.put s).2=some (.normal,shO1.put s')/\pO1 s'=true/\mO1 s'<mO1 s/\(fO1 s').run=some r):=by
 intro t r hp hr
 unfold pO1 at hp; split at hp
 ·rename_i g nm n l i q e0 nl es
  simp only[Bool.and_eq_true,decide_eq_true_eq] at hp
  obtain ⟨⟨⟨⟨⟨hq,h1⟩,rfl⟩,rfl⟩,h4⟩,h5⟩:=hp
  have hq':=isME_eq hq
  subst hq'
  have hr':=(Option.some.inj hr).symm
  refine ⟨by rw[hr']; simp,?_⟩
  rw[show shO1.put ([.l g nm,.n es.length,.n es.length,.i i],[.p mE,.l true e0,.l nl es])=shO1.put (lO1 g nm es.length es.length i mE e0 nl es) from rfl,qO1]
  by_cases hi:i<(es.length:Int)
  ·obtain ⟨m,hm⟩:∃ m,((es.length:Int)-i).toNat=m+1:=⟨((es.length:Int)-i).toNat-1,by omega⟩
   have hm2:((es.length:Int)-(i+1)).toNat=m:=by omega
   rw[hm] at hr'
   have hv:=vO_range h5 h1
   have key:(bif decide (i<(nm.length:Int)) then bif inr nm i then bodO es es.length es.length i (W ((nm.getD i.toNat .any).cellAt 0).getI) (some (PX.normal,shO1.put (lO1 g nm es.length es.length (W (i+1)) mE e0 nl (esD es i (W ((nm.getD i.toNat .any).cellAt 0).getI))))) else none
     else bodO es es.length es.length i 0 (some (PX.normal,shO1.put (lO1 g nm es.length es.length (W (i+1)) mE e0 nl (esD es i 0)))))=some (PX.normal,shO1.put (lO1 g nm es.length es.length (i+1) mE e0 nl (esD es i (vO nm i)))):=by
    rw[W_id (n:=i+1) (by omega) (by omega)]
    unfold vO at hv ⊢
    by_cases hn:i<(nm.length:Int)
    ·rw[decide_eq_true hn,cond_true] at hv ⊢
     rw[Am h1 hn,cond_true,bodO_eq h1 hi hv.1]; rfl
    ·rw[decide_eq_false hn,cond_false] at hv ⊢
     rw[bodO_eq h1 hi hv.1]; rfl
   rw[decide_eq_true hi,cond_true,key]
   refine .inr ⟨lO1 g nm es.length es.length (i+1) mE e0 nl (esD es i (vO nm i)),rfl,by simp only[pO1,Bool.and_eq_true,decide_eq_true_eq,esD_len]; exact ⟨⟨⟨⟨⟨rfl,by omega⟩,trivial⟩,trivial⟩,h4⟩,h5⟩,by simp only[mO1]; omega,?_⟩
   rw[hr']
   simp only[fO1,hm2,updL]
   rfl
  ·rw[decide_eq_false hi]
   rw[show ((es.length:Int)-i).toNat=0 by omega] at hr'
   exact .inl (by rw[hr']; rfl)
 ·cases hp
noncomputable def TP0:Ad:=TN0.addW 33 3 [1,4,5,6] [] shO1 pO1 fO1
theorem okTP0:Ab Tryz.prog TP0.env:=
 okTN0.addW (n:=60) Tryz.func33 (show Tryz.f33.body=some (bod Tryz.f33) by kernel_rfl) (show (loops (bod Tryz.f33)).filter (fun b=>rid b==3)=[Ao Tryz.f33 3] by kernel_rfl) [1,4,5,6] [4,5] [] shO1 mO1 sO1
def mkM (ws:List PV):PV:=.agg [nilV,nilV,.Ac false 44 ws,nilV]
theorem qMdM (f:Bool) (L:List PV) (g:Bool) (nm:List PV):Ah Tryz.prog TP0 100 33 [.Ac f 3 L,.Ac g 5 nm] =
 bif okB (madeW L)&&decide ((madeW L).length<=900) then bif (fineW L).isEmpty then some (mkM []) else
  bif pO1 (lO1 g nm (fineW L).length (fineW L).length 0 mE [] false (fineW L)) then bif (updL nm 0 (((fineW L).length:Int)-0).toNat (fineW L)).length==(fineW L).length then
   some (mkM (((updL nm 0 (((fineW L).length:Int)-0).toNat (fineW L)).drop 0).take (fineW L).length)) else none else none else none:=by kernel_rfl
def madeN (L nm:List PV):List PV:=updL nm 0 (fineW L).length (fineW L)
theorem madeN_len (L nm:List PV):(madeN L nm).length=(fineW L).length:=updL_len ..
theorem qMdM' (f:Bool) (L:List PV) (g:Bool) (nm:List PV) (h:okN nm=true):Ah Tryz.prog TP0 100 33 [.Ac f 3 L,.Ac g 5 nm]=some (mkM (madeN L nm)):=by
 have h6:=madeW_len L
 have f6:=(okW_iff (fine_okW L)).1
 rw[qMdM,made_okB,decide_eq_true (show (madeW L).length<=900 by omega)]
 have hl:=madeN_len L nm
 unfold madeN at hl ⊢
 cases he:(fineW L).isEmpty with
 | true =>
  have:fineW L=[]:=by simpa using he
  rw[this]; rfl
 | false =>
  rw[show pO1 (lO1 g nm (fineW L).length (fineW L).length 0 mE [] false (fineW L))=true by simp only[pO1,Bool.and_eq_true,decide_eq_true_eq]; exact ⟨⟨⟨⟨⟨rfl,Int.le_refl _⟩,trivial⟩,trivial⟩,by omega⟩,h⟩,
   show (((fineW L).length:Int)-0).toNat=(fineW L).length by omega,hl,beq_self_eq_true,List.drop_zero,List.take_of_length_le (by rw[hl]; exact Nat.le_refl _)]
  rfl
def cMdM:List PV->Option (DT PV)
 | [.Ac _ 3 L,.Ac _ 5 nm]=>some (.br (okN nm) (.leaf (mkM (madeN L nm))) .no)
 | _=>none
theorem eMdM:Hx.Enters Tryz.prog 33:=(Aa okTP0 (n:=100) (qMdM' true [] true [] rfl)).1
theorem oMdM (args:List PV) (d:DT PV) (r:PV) (h:cMdM args=some d) (hr:d.run=some r):Ak Tryz.prog 33 args r:=by
 unfold cMdM at h; split at h
 ·cases h
  obtain ⟨h1,rfl⟩:=Aq hr
  exact (Aa okTP0 (n:=100) (qMdM' _ _ _ _ h1)).2
 ·cases h
end Go.Hn
/- Thin: Can in a form that is computed: lists that are in order are not sorted again. -/
namespace Go.Hn
open Go.Hx Go.Hg Go.Proofs
def inOrd:List Int->Bool
 | []=>true
 | [_]=>true
 | a::b::l=>decide (a<=b)&&inOrd (b::l)
theorem inOrd_pw:∀ {l:List Int},inOrd l=true->l.Pairwise fun x y=>decide (x<=y)=true
 | [],_=>.nil
 | [a],_=>by simp
 | a::b::l,h=>by
  unfold inOrd at h
  rw[Bool.and_eq_true,decide_eq_true_eq] at h
  have ih:=inOrd_pw h.2
  refine List.pairwise_cons.2 ⟨fun x hx => ?_,ih⟩
  rw[decide_eq_true_eq]
  rcases List.mem_cons.1 hx with rfl | hx
  ·exact h.1
  ·have:=List.rel_of_pairwise_cons ih hx
   simp only[decide_eq_true_eq] at this
   omega
def srt2 (es:List PV):List PV:=bif inOrd (nums es) then (nums es).map fun n=>.val (.int .i64 n) else srtI es
theorem srt2_eq (es:List PV):srt2 es=srtI es:=by
 unfold srt2
 cases h:inOrd (nums es) with
 | false=>rfl
 | true=>unfold srtI; rw[cond_true,List.mergeSort_of_pairwise (inOrd_pw h)]
def lst2 (G:List (List PV × Nat)):List PV:=G.map fun g=>.agg [.Ac false 3 (((srt2 g.1).drop 0).take g.2)]
theorem lst2_eq (G:List (List PV × Nat)):lst2 G=lstX G:=by unfold lst2 lstX; simp only[srt2_eq]
def grpL2 (ws:List PV):List PV:=sortP (lst2 (R1 ws).2.2) (R1 ws).2.2.length
theorem grpL2_eq (ws:List PV):grpL2 ws=grpL ws:=by unfold grpL2 grpL; rw[lst2_eq]
def grpG2 (ws:List PV):List PV:=bif okW ws then grpL2 ws else grpL3 ws
theorem grpG2_eq (ws:List PV):grpG2 ws=grpG ws:=by unfold grpG2 grpG; rw[grpL2_eq]
def grM2 (ws:List PV):List (PV × PV):=gpA (grpG2 (nuW 0 ws)) 0 (grpG2 (nuW 0 ws)).length []
def brB2 (ws:List PV) (a:Int):Bool:=brk a (grM2 ws) (grM2 (ws.eraseIdx a.toNat)) 0 ws.length []
theorem brB2_eq (ws:List PV) (a:Int):brB2 ws a=brB ws a:=by unfold brB2 brB grM2 grM; simp only[grpG2_eq]
def canE2 (ws:List PV) (a:Int) (e:PV):Int:=
 bif bdr ws (nrE e) 0 ws.length (decide (wDs e<1)) then 25 else bif brB2 (owl ws (nrE e) 0 ws.length) (plc ws (nrE e) a 0 ws.length 0 0) then 23 else
  bif !((wNm e).toList==(ByteArray.mk #[]).toList)&&decide (ttC ws e<2) then 24 else 0
def canW2 (ws:List PV) (id:Int):Int:=bif decide (fiW ws id 0 ws.length<0) then 5 else canE2 ws (fiW ws id 0 ws.length) (ws.getD (fiW ws id 0 ws.length).toNat .any)
theorem canW2_eq (ws:List PV) (id:Int):canW2 ws id=canW ws id:=by unfold canW2 canW canE2 canE; simp only[brB2_eq]
def cCan2:List PV->Option (DT PV)
 | [.agg [a,b,w,d],.val (.int .i64 id)]=>match lsM a b w d with | some ws=>some (.br (okC ws) (.leaf (iv (canW2 ws id))) .no) | none=>none
 | _=>none
theorem oCan2 (args:List PV) (d:DT PV) (r:PV) (h:cCan2 args=some d) (hr:d.run=some r):Ak Tryz.prog 37 args r:=by
 unfold cCan2 at h; split at h
 ·rename_i a b w e id
  split at h
  ·rename_i ws hl
   rw[canW2_eq] at h
   exact oCan _ d r (by unfold cCan; simp only[hl]; exact h) hr
  ·cases h
 ·cases h
noncomputable def TQ0:Ad:=((((((((((TB1.Ag 37 cCan2).Ag 39 cCost).addN 43 2 [(4,81,5)]).addN 74 3 [(1102,44,8)]).addDeep 74 6 3).addK 74).addIn Tryz.prog).addPiv 121 5 6).addK 122).addDeep 32 5 11)
theorem okTQ0:Ab Tryz.prog TQ0.env:=((((((Ab.addIn (((((okTB1.Ag eCan oCan2).Ag eCost oCost).addN 43 2 [(4,81,5)]).addN 74 3 [(1102,44,8)]).addDeep 74 6 3 |>.addK 74)).addPiv 121 5 6).addK 122).addDeep 32 5 11)))
theorem qSan14:Ah Tryz.prog TQ0 200 32 []=some (bv true):=by kernel_rfl
theorem eSan14:Hx.Enters Tryz.prog 32:=(Aa okTQ0 qSan14).1
def cSan14:List PV->Option PV
 | []=>some (bv true)
 | _=>none
theorem oSan14 (args:List PV) (r:PV) (h:cSan14 args=some r):Ak Tryz.prog 32 args r:=by
 unfold cSan14 at h; split at h
 ·cases h; exact (Aa okTQ0 qSan14).2
 ·cases h
end Go.Hn
/- Thin: ThinCans: its environment. -/
namespace Go.Hn
open Go.Hx Go.Hg Go.Proofs
def selA {α:Type}:DT α->DT α
 | .br a (.br b x _) _=>.br (a&&b) x .no
 | _=>.no
def selB {α:Type}:DT α->DT α
 | .br a (.br b _ y) _=>.br (a && !b) y .no
 | _=>.no
theorem selA_run {α:Type} {d:DT α} {r:α} (h:(selA d).run=some r):d.run=some r:=by
 unfold selA at h
 split at h
 ·rename_i a b x y z
  cases a <;> cases b <;> first | exact h | cases h
 ·cases h
theorem selB_run {α:Type} {d:DT α} {r:α} (h:(selB d).run=some r):d.run=some r:=by
 unfold selB at h
 split at h
 ·rename_i a b x y z
  cases a <;> cases b <;> first | exact h | cases h
 ·cases h
def sA (c:List PV->Option (DT PV)) (args:List PV):Option (DT PV):=match c args with | some d=>some (selA d) | none=>none
def sAR {α:Type} (c:List PV->List Row->Option (DT α)) (args:List PV) (H:List Row):Option (DT α):=match c args H with | some d=>some (selA d) | none=>none
theorem osA {k:FuncId} {c:List PV->Option (DT PV)} (hc:∀ args d r,c args=some d->d.run=some r->Ak Tryz.prog k args r) (args:List PV) (d:DT PV) (r:PV) (h:sA c args=some d) (hr:d.run=some r):Ak Tryz.prog k args r:=by
 unfold sA at h; split at h
 ·rename_i d' hd; cases h; exact hc args d' r hd (selA_run hr)
 ·cases h
theorem osAE {k:FuncId} {c:List PV->List Row->Option (DT PV)} (hc:∀ args H d q,c args H=some d->d.run=some q->RCall Tryz.prog H.length k args H q H) (args:List PV) (H:List Row) (d:DT PV) (q:PV) (h:sAR c args H=some d) (hr:d.run=some q):RCall Tryz.prog H.length k args H q H:=by
 unfold sAR at h; split at h
 ·rename_i d' hd; cases h; exact hc args H d' q hd (selA_run hr)
 ·cases h
theorem osAR {k:FuncId} {c:List PV->List Row->Option (DT (PV × List Row))} (hc:∀ args H d q H',c args H=some d->d.run=some (q,H')->RCall Tryz.prog 0 k args H q H') (args:List PV) (H:List Row) (d:DT (PV × List Row)) (q:PV) (H':List Row) (h:sAR c args H=some d) (hr:d.run=some (q,H')):RCall Tryz.prog 0 k args H q H':=by
 unfold sAR at h; split at h
 ·rename_i d' hd; cases h; exact hc args H d' q H' hd (selA_run hr)
 ·cases h
def sB (c:List PV->Option (DT PV)) (args:List PV):Option (DT PV):=match c args with | some d=>some (selB d) | none=>none
def sBR {α:Type} (c:List PV->List Row->Option (DT α)) (args:List PV) (H:List Row):Option (DT α):=match c args H with | some d=>some (selB d) | none=>none
theorem osB {k:FuncId} {c:List PV->Option (DT PV)} (hc:∀ args d r,c args=some d->d.run=some r->Ak Tryz.prog k args r) (args:List PV) (d:DT PV) (r:PV) (h:sB c args=some d) (hr:d.run=some r):Ak Tryz.prog k args r:=by
 unfold sB at h; split at h
 ·rename_i d' hd; cases h; exact hc args d' r hd (selB_run hr)
 ·cases h
theorem osBE {k:FuncId} {c:List PV->List Row->Option (DT PV)} (hc:∀ args H d q,c args H=some d->d.run=some q->RCall Tryz.prog H.length k args H q H) (args:List PV) (H:List Row) (d:DT PV) (q:PV) (h:sBR c args H=some d) (hr:d.run=some q):RCall Tryz.prog H.length k args H q H:=by
 unfold sBR at h; split at h
 ·rename_i d' hd; cases h; exact hc args H d' q hd (selB_run hr)
 ·cases h
theorem osBR {k:FuncId} {c:List PV->List Row->Option (DT (PV × List Row))} (hc:∀ args H d q H',c args H=some d->d.run=some (q,H')->RCall Tryz.prog 0 k args H q H') (args:List PV) (H:List Row) (d:DT (PV × List Row)) (q:PV) (H':List Row) (h:sBR c args H=some d) (hr:d.run=some (q,H')):RCall Tryz.prog 0 k args H q H':=by
 unfold sBR at h; split at h
 ·rename_i d' hd; cases h; exact hc args H d' q H' hd (selB_run hr)
 ·cases h
def nlP (c:List PV->Option (DT PV)):List PV->Option (DT PV)
 | [.agg [a,b,w,.val (.slice none 0 0)],i]=>c [.agg [a,b,w,.val (.slice none 0 0)],i]
 | _=>none
theorem onlP {k:FuncId} {c:List PV->Option (DT PV)} (hc:∀ args d r,c args=some d->d.run=some r->Ak Tryz.prog k args r) (args:List PV) (d:DT PV) (r:PV) (h:nlP c args=some d) (hr:d.run=some r):Ak Tryz.prog k args r:=by
 unfold nlP at h; split at h
 ·exact hc _ d r h hr
 ·cases h
def cSW2:List PV->Option (DT PV)
 | [x,y]=>match lsO 44 x,lsO 44 y with | some A,some B=>some (.br (okSW A) (.leaf (bv (sameWs A B))) .no) | _,_=>none
 | _=>none
theorem oSW2 (args:List PV) (d:DT PV) (r:PV) (h:cSW2 args=some d) (hr:d.run=some r):Ak Tryz.prog 41 args r:=by
 unfold cSW2 at h; split at h
 ·rename_i x y
  split at h
  ·rename_i A B h1 h2
   cases h
   obtain ⟨f,r1⟩:=lsO_rv h1
   obtain ⟨g,r2⟩:=lsO_rv h2
   refine pcall_weak (oSW [.Ac f 44 A,.Ac g 44 B] _ r rfl hr) fun C Vs hs=>⟨hs.1,fun j c v g1 g2 => ?_⟩
   match j with
   | 0 =>
    simp only[List.getElem?_cons_zero,Option.some.injEq] at g1
    subst g1
    exact r1 C v (hs.2 0 _ v rfl g2)
   | 1 =>
    simp only[List.getElem?_cons_succ,List.getElem?_cons_zero,Option.some.injEq] at g1
    subst g1
    exact r2 C v (hs.2 1 _ v rfl g2)
   | j+2=>simp at g1
  ·cases h
 ·cases h
noncomputable def TZ1:Ad:=((((((((((((((({}:Ad).addO 32 cSan14).Ag 33 cMdM).addO 34 cFw).Ag 35 (sA (nlP cApA))).addRE 35 (sAR cApS)).Ag 36 (sA (nlP cArB))).addR 36 (sAR cArS)).Ag 37 cCan).Ag 38 cCan).Ag 39 cCost).Ag 40 cCost).Ag 41 cSW2).Ag 42 cSE).Ag 43 (nlP cAll)).Ag 44 (nlP cAll)
theorem okTZ1:Ab Tryz.prog TZ1.env:=Ab.Ag (Ab.Ag (Ab.Ag (Ab.Ag (Ab.Ag (Ab.Ag (Ab.Ag (Ab.Ag (Ab.addR (Ab.Ag (Ab.addRE (Ab.Ag (Ab.addO (Ab.Ag (Ab.addO Af (fun args r h=>⟨eSan14,oSan14 args r h⟩)) eMdM oMdM) (oFw)) eApA (osA (onlP oApA))) eApA (osAE oApS)) eArB (osA (onlP oArB))) eArB (osAR oArS)) eCan oCan) eCaR oCaR) eCost oCost) eCoR oCoR) eSW oSW2) eSE oSE) eAll (onlP oAll)) eAlR (onlP oAlR)
noncomputable def TZ2:Ad:=((((((((((((((({}:Ad).addO 32 cSan14).Ag 33 cMdM).addO 34 cFw).Ag 35 (sB (nlP cApA))).addRE 35 (sBR cApS)).Ag 36 (sB (nlP cArB))).addR 36 (sBR cArS)).Ag 37 cCan).Ag 38 cCan).Ag 39 cCost).Ag 40 cCost).Ag 41 cSW2).Ag 42 cSE).Ag 43 (nlP cAll)).Ag 44 (nlP cAll)
theorem okTZ2:Ab Tryz.prog TZ2.env:=Ab.Ag (Ab.Ag (Ab.Ag (Ab.Ag (Ab.Ag (Ab.Ag (Ab.Ag (Ab.Ag (Ab.addR (Ab.Ag (Ab.addRE (Ab.Ag (Ab.addO (Ab.Ag (Ab.addO Af (fun args r h=>⟨eSan14,oSan14 args r h⟩)) eMdM oMdM) (oFw)) eApA (osB (onlP oApA))) eApA (osBE oApS)) eArB (osB (onlP oArB))) eArB (osBR oArS)) eCan oCan) eCaR oCaR) eCost oCost) eCoR oCoR) eSW oSW2) eSE oSE) eAll (onlP oAll)) eAlR (onlP oAlR)
def shZc:Hx.S1:=⟨119,[(5,.ptr 0 1 0 0),(7,.bool),(8,.ptr 2 1 0 0),(9,I64),(10,.ptr 3 1 0 0),(11,.ptr 4 1 0 0),(12,I64)],
 [.one 60 3 (.agg [.Ac 44,I64,I64]),.many 68 7,.onef 69 8 (.agg [.nil,.nil,.Ac 44,.nil,.nil,.nil,.Ac 44,.sl 1]),.onef 65 4 (.agg [.nil,.nil,.Ac 44,.pv]),.one 70 4 (.agg [I64,I64,I64,I64])]⟩
abbrev lZc (u:Bool) (i k:Int) (fq:Bool) (Q:List PV) (qi qd:Int) (nl:Bool) (ps:List PV) (g1:Bool) (W1:List PV) (g2:Bool) (W2:List PV) (n l:Nat) (f:Bool) (ws:List PV) (d:PV) (i0 i1 i2 i3:Int):LS:=
 ([.b u,.i i,.i k],[.l fq Q,.i qi,.i qd,.l nl ps,.l g1 W1,.l g2 W2,.n n,.n l,.l f ws,.p d,.i i0,.i i1,.i i2,.i i3])
end Go.Hn
/- Thin: ThinCans: the round of the inner loop. -/
namespace Go.Hn
open Go.Hx Go.Hg Go.Proofs
abbrev RZ:=Option (PX × List PV × List Row)
def rzA (ws:List PV) (id:Int) (rt nx:RZ):RZ:=
 bif okAp ws&&(canW ws id==0) then bif okAp ws&&(canW ws id==0) then bif okC ws then bif okC ws then bif canW ws id != canW ws id then rt else bif An ws then bif An ws then bif costW ws id != costW ws id then rt else
  bif okSW (apL ws id) then bif !sameWs (apL ws id) (apL ws id) then rt else nx else none else none else none else none else none else none else none
def rzB (ws:List PV) (id:Int) (rt nx:RZ):RZ:=
 bif okAp ws && !(canW ws id==0) then bif okAp ws && !(canW ws id==0) then bif okC ws then bif okC ws then bif canW ws id != canW ws id then rt else bif An ws then bif An ws then bif costW ws id != costW ws id then rt else
  bif canW ws id != canW ws id then rt else nx else none else none else none else none else none else none
def ixZ (k i0 i1 i2 i3:Int) (R:Int->RZ):RZ:=bif decide (k=((3:Nat):Int)) then R i3 else bif decide (k=((2:Nat):Int)) then R i2 else bif decide (k=((1:Nat):Int)) then R i1 else bif decide (k=((0:Nat):Int)) then R i0 else none
def place0:PV:=.agg [iv 77,iv 0,iv 0,.val (.string (ByteArray.mk #[])),.val (.string (ByteArray.mk #[112])),iv 0,iv 0]
section
variable (u:Bool) (i k:Int) (fq:Bool) (Q:List PV) (qi qd:Int) (nl:Bool) (ps:List PV) (g1:Bool) (W1:List PV) (g2:Bool) (W2:List PV) (n l:Nat) (f:Bool) (ws:List PV) (i0 i1 i2 i3:Int)
noncomputable abbrev exZ (d:PV):RZ:=some (.exit 2,tm 119 [(5,.ptr 0 1 0 0),(7,bv u),(8,.ptr 2 1 0 0),(9,iv i),(10,.ptr 3 1 0 0)],(shZc.put (lZc u i k fq Q qi qd nl ps g1 W1 g2 W2 n l f ws d i0 i1 i2 i3)).2)
noncomputable abbrev rtZ (d:PV):RZ:=some (.ret,tm 119 [(5,.ptr 0 1 0 0),(6,bv false),(7,bv u),(8,.ptr 2 1 0 0),(9,iv i),(10,.ptr 3 1 0 0)],(shZc.put (lZc u i k fq Q qi qd nl ps g1 W1 g2 W2 n l f ws d i0 i1 i2 i3)).2)
noncomputable abbrev nxZ (d:PV):RZ:=some (.normal,shZc.put (lZc u i (W (k+1)) fq Q qi qd nl ps g1 W1 g2 W2 n l f ws d i0 i1 i2 i3))
theorem qZA:Al Tryz.prog TZ1 60 8 (Ao Tryz.f8 9) [5,7,8,9,10,11,12] [5,6,7,8,9,10] (shZc.put (lZc u i k fq Q qi qd nl ps g1 W1 g2 W2 n l f ws nilV i0 i1 i2 i3)).1 (shZc.put (lZc u i k fq Q qi qd nl ps g1 W1 g2 W2 n l f ws nilV i0 i1 i2 i3)).2 =
 bif decide (k<4) then ixZ k i0 i1 i2 i3 (fun id=>rzA ws id (rtZ u i k fq Q qi qd nl ps g1 W1 g2 W2 n l f ws i0 i1 i2 i3 nilV) (nxZ u i k fq Q qi qd nl ps g1 W1 g2 W2 n l f ws i0 i1 i2 i3 nilV)) else exZ u i k fq Q qi qd nl ps g1 W1 g2 W2 n l f ws i0 i1 i2 i3 nilV:=by kernel_rfl
theorem qZB:Al Tryz.prog TZ2 60 8 (Ao Tryz.f8 9) [5,7,8,9,10,11,12] [5,6,7,8,9,10] (shZc.put (lZc u i k fq Q qi qd nl ps g1 W1 g2 W2 n l f ws nilV i0 i1 i2 i3)).1 (shZc.put (lZc u i k fq Q qi qd nl ps g1 W1 g2 W2 n l f ws nilV i0 i1 i2 i3)).2 =
 bif decide (k<4) then ixZ k i0 i1 i2 i3 (fun id=>rzB ws id (rtZ u i k fq Q qi qd nl ps g1 W1 g2 W2 n l f ws i0 i1 i2 i3 nilV) (nxZ u i k fq Q qi qd nl ps g1 W1 g2 W2 n l f ws i0 i1 i2 i3 nilV)) else exZ u i k fq Q qi qd nl ps g1 W1 g2 W2 n l f ws i0 i1 i2 i3 nilV:=by kernel_rfl
abbrev dP:PV:=.sl 1 1 0 1
theorem qZC:Al Tryz.prog TZ1 60 8 (Ao Tryz.f8 9) [5,7,8,9,10,11,12] [5,6,7,8,9,10] (shZc.put (lZc u i k fq Q qi qd false [place0] g1 W1 g2 W2 n l f ws dP i0 i1 i2 i3)).1 (shZc.put (lZc u i k fq Q qi qd false [place0] g1 W1 g2 W2 n l f ws dP i0 i1 i2 i3)).2 =
 bif decide (k<4) then ixZ k i0 i1 i2 i3 (fun id=>rzA ws id (rtZ u i k fq Q qi qd false [place0] g1 W1 g2 W2 n l f ws i0 i1 i2 i3 dP) (nxZ u i k fq Q qi qd false [place0] g1 W1 g2 W2 n l f ws i0 i1 i2 i3 dP)) else exZ u i k fq Q qi qd false [place0] g1 W1 g2 W2 n l f ws i0 i1 i2 i3 dP:=by kernel_rfl
theorem qZD:Al Tryz.prog TZ2 60 8 (Ao Tryz.f8 9) [5,7,8,9,10,11,12] [5,6,7,8,9,10] (shZc.put (lZc u i k fq Q qi qd false [place0] g1 W1 g2 W2 n l f ws dP i0 i1 i2 i3)).1 (shZc.put (lZc u i k fq Q qi qd false [place0] g1 W1 g2 W2 n l f ws dP i0 i1 i2 i3)).2 =
 bif decide (k<4) then ixZ k i0 i1 i2 i3 (fun id=>rzB ws id (rtZ u i k fq Q qi qd false [place0] g1 W1 g2 W2 n l f ws i0 i1 i2 i3 dP) (nxZ u i k fq Q qi qd false [place0] g1 W1 g2 W2 n l f ws i0 i1 i2 i3 dP)) else exZ u i k fq Q qi qd false [place0] g1 W1 g2 W2 n l f ws i0 i1 i2 i3 dP:=by kernel_rfl
end
end Go.Hn
/- Thin: ThinCans' inner loop as a contract. -/
namespace Go.Hn
open Go.Hx Go.Hg Go.Proofs
noncomputable def dOk (d:PV) (nl:Bool) (ps:List PV):Bool:=
 match d with
 | .val (.slice none 0 0)=>true
 | .sl 1 1 0 1=>same nl false&&same ps [place0]
 | _=>false
noncomputable def pZ:LS->Bool
 | ([.b _,.i _,.i k],[.l _ _,.i _,.i _,.l nl ps,.l _ _,.l _ _,.n _,.n _,.l _ ws,.p d,.i _,.i _,.i _,.i _])=>decide (0<=k)&&(okAp ws&&dOk d nl ps)
 | _=>false
noncomputable def fZ:LS->DT (PX × List PV × List Row)
 | ([.b u,.i i,.i k],[.l fq Q,.i qi,.i qd,.l nl ps,.l g1 W1,.l g2 W2,.n n,.n l,.l f ws,.p d,.i i0,.i i1,.i i2,.i i3]) =>
  .leaf (.exit 2,tm 119 [(5,.ptr 0 1 0 0),(7,bv u),(8,.ptr 2 1 0 0),(9,iv i),(10,.ptr 3 1 0 0)],(shZc.put (lZc u i k fq Q qi qd nl ps g1 W1 g2 W2 n l f ws d i0 i1 i2 i3)).2)
 | _=>.no
def mZ:LS->Nat
 | ([.b _,.i _,.i k],_)=>(4-k).toNat
 | _=>0
theorem apL_ok {ws:List PV} (h:okAp ws=true) (id:Int):okSW (apL ws id)=true:=by
 unfold okAp at h
 rw[Bool.and_eq_true] at h
 have h6:=okC_len h.1
 have hb:okB ws=true:=by have:=h.1; unfold okC at this; rw[Bool.and_eq_true] at this; exact this.2
 have hl:(apL ws id).length<=ws.length:=by unfold apL; rw[List.length_map]; exact List.length_eraseIdx_le ..
 unfold okSW
 rw[Bool.and_eq_true,decide_eq_true_eq]
 refine ⟨okB_sub hb hl fun e he => ?_,by omega⟩
 unfold apL at he
 obtain ⟨d,hd,rfl⟩:=List.mem_map.1 he
 exact ⟨d,List.mem_of_mem_eraseIdx hd,rfl⟩
theorem rzA_eq {ws:List PV} {id:Int} (h:okAp ws=true) (hc:(canW ws id==0)=true) (rt nx:RZ):rzA ws id rt nx=nx:=by
 have hs:=apL_ok h id
 have h':=h
 unfold okAp at h'
 rw[Bool.and_eq_true] at h'
 have h6:=okC_len h'.1
 unfold rzA
 rw[h,hc,h'.1,bne_self_eq_false,bne_self_eq_false,show An ws=true from decide_eq_true (by omega),hs,sameWs_self]
 rfl
theorem rzB_eq {ws:List PV} {id:Int} (h:okAp ws=true) (hc:(canW ws id==0)=false) (rt nx:RZ):rzB ws id rt nx=nx:=by
 have h':=h
 unfold okAp at h'
 rw[Bool.and_eq_true] at h'
 have h6:=okC_len h'.1
 unfold rzB
 rw[h,hc,h'.1,bne_self_eq_false,bne_self_eq_false,show An ws=true from decide_eq_true (by omega)]
 rfl
theorem ixZ_eq {k:Int} (h0:0<=k) (h4:k<4) (i0 i1 i2 i3:Int):∃ id,∀ R,ixZ k i0 i1 i2 i3 R=R id:=by
 have:k=0\/k=1\/k=2\/k=3:=by omega
 rcases this with rfl | rfl | rfl | rfl
 ·exact ⟨i0,fun _=>rfl⟩
 ·exact ⟨i1,fun _=>rfl⟩
 ·exact ⟨i2,fun _=>rfl⟩
 ·exact ⟨i3,fun _=>rfl⟩
theorem sZ:∀ s r,pZ s=true->(fZ s).run=some r->r.1 ≠ .normal/\∃ E:Ad,Ab Tryz.prog E.env/\(Al Tryz.prog E 60 8 (Ao Tryz.f8 9) [5,7,8,9,10,11,12] [5,6,7,8,9,10] (shZc.put s).1 (shZc.put s).2=some r \/
   ∃ s',Al Tryz.prog E 60 8 (Ao Tryz.f8 9) [5,7,8,9,10,11,12] [5,6,7,8,9,10] (shZc.put s).1 (shZc.put s).2=some (.normal,shZc.put s')/\pZ s'=true/\mZ s'<mZ s/\(fZ s').run=some r):=by
 intro s r hp hr
 unfold pZ at hp; split at hp
 ·rename_i u i k fq Q qi qd nl ps g1 W1 g2 W2 n l f ws d i0 i1 i2 i3
  simp only[Bool.and_eq_true,decide_eq_true_eq] at hp
  obtain ⟨h1,h2,h3⟩:=hp
  have hr':=(Option.some.inj hr).symm
  refine ⟨by rw[hr']; simp,?_⟩
  by_cases hk:k<4
  ·obtain ⟨id,hid⟩:=ixZ_eq h1 hk i0 i1 i2 i3
   have hnx:∀ d,dOk d nl ps=true->∃ s',(some (.normal,shZc.put (lZc u i (W (k+1)) fq Q qi qd nl ps g1 W1 g2 W2 n l f ws d i0 i1 i2 i3)):RZ)=some (.normal,shZc.put s')/\pZ s'=true/\mZ s'<mZ (lZc u i k fq Q qi qd nl ps g1 W1 g2 W2 n l f ws d i0 i1 i2 i3)/\(fZ s').run=(fZ (lZc u i k fq Q qi qd nl ps g1 W1 g2 W2 n l f ws d i0 i1 i2 i3)).run:=fun d hd=>by
    rw[W_id (n:=k+1) (by omega) (by omega)]
    exact ⟨lZc u i (k+1) fq Q qi qd nl ps g1 W1 g2 W2 n l f ws d i0 i1 i2 i3,rfl,by simp only[pZ,Bool.and_eq_true,decide_eq_true_eq]; exact ⟨by omega,h2,hd⟩,by simp only[mZ]; omega,rfl⟩
   unfold dOk at h3
   split at h3
   ·obtain ⟨s',e1,e2,e3,e4⟩:=hnx nilV rfl
    cases hc:canW ws id==0 with
    | true =>
     refine ⟨TZ1,okTZ1,.inr ⟨s',?_,e2,e3,by rw[e4]; exact hr⟩⟩
     rw[<- e1,qZA,decide_eq_true hk,cond_true,hid,rzA_eq h2 hc]
    | false =>
     refine ⟨TZ2,okTZ2,.inr ⟨s',?_,e2,e3,by rw[e4]; exact hr⟩⟩
     rw[<- e1,qZB,decide_eq_true hk,cond_true,hid,rzB_eq h2 hc]
   ·simp only[Bool.and_eq_true,same_iff] at h3
    obtain ⟨rfl,rfl⟩:=h3
    obtain ⟨s',e1,e2,e3,e4⟩:=hnx dP (by simp only[dOk,Bool.and_eq_true,same_iff]; exact ⟨trivial,trivial⟩)
    cases hc:canW ws id==0 with
    | true =>
     refine ⟨TZ1,okTZ1,.inr ⟨s',?_,e2,e3,by rw[e4]; exact hr⟩⟩
     rw[<- e1,qZC,decide_eq_true hk,cond_true,hid,rzA_eq h2 hc]
    | false =>
     refine ⟨TZ2,okTZ2,.inr ⟨s',?_,e2,e3,by rw[e4]; exact hr⟩⟩
     rw[<- e1,qZD,decide_eq_true hk,cond_true,hid,rzB_eq h2 hc]
   ·cases h3
  ·refine ⟨TZ1,okTZ1,.inl ?_⟩
   unfold dOk at h3
   split at h3
   ·rw[show shZc.put ([.b u,.i i,.i k],[.l fq Q,.i qi,.i qd,.l nl ps,.l g1 W1,.l g2 W2,.n n,.n l,.l f ws,.p nilV,.i i0,.i i1,.i i2,.i i3])=shZc.put (lZc u i k fq Q qi qd nl ps g1 W1 g2 W2 n l f ws nilV i0 i1 i2 i3) from rfl,qZA,decide_eq_false hk,hr']
    rfl
   ·simp only[Bool.and_eq_true,same_iff] at h3
    obtain ⟨rfl,rfl⟩:=h3
    rw[show shZc.put ([.b u,.i i,.i k],[.l fq Q,.i qi,.i qd,.l false [place0],.l g1 W1,.l g2 W2,.n n,.n l,.l f ws,.p dP,.i i0,.i i1,.i i2,.i i3])=shZc.put (lZc u i k fq Q qi qd false [place0] g1 W1 g2 W2 n l f ws dP i0 i1 i2 i3) from rfl,qZC,decide_eq_false hk,hr']
    rfl
   ·cases h3
 ·cases hp
noncomputable def TZ3:Ad:=TZ1.addW 8 9 [5,7,8,9,10,11,12] [] shZc pZ fZ
theorem okTZ3:Ab Tryz.prog TZ3.env:=
 okTZ1.addWv (n:=60) Tryz.func8 (show Tryz.f8.body=some (bod Tryz.f8) by kernel_rfl) (show (loops (bod Tryz.f8)).filter (fun b=>rid b==9)=[Ao Tryz.f8 9] by kernel_rfl) [5,7,8,9,10,11,12] [5,6,7,8,9,10] [] shZc mZ sZ
end Go.Hn
/- Thin: what is made: numbers, lines and districts. -/
namespace Go.Hn
open Go.Hx Go.Hg Go.Proofs
theorem map_set_same {α β:Type} (F:α->β):∀ {l:List α} {k:Nat} {x:α},(∀ y,l[k]? = some y->F x=F y)->(l.set k x).map F=l.map F
 | [],_,_,_=>rfl
 | y::l,0,x,h=>by simp[h y rfl]
 | y::l,k+1,x,h=>by simp only[List.set_cons_succ,List.map_cons]; rw[map_set_same F fun z hz=>h z (by simpa using hz)]
theorem rE_at {es:List PV} {i:Int} {y:PV} (h:es[0+i.toNat]? = some y):rE es i=y:=by
 unfold rE
 rw[List.getD_eq_getElem?_getD,h]; rfl
theorem esD_map {β:Type} (F:PV->β) (h1:∀ s e,F (nmE s e)=F e) (h2:∀ d e,F (dsE d e)=F e) (es:List PV) (i v:Int):(esD es i v).map F=es.map F:=by
 have e1:(esN es i v).map F=es.map F:=map_set_same F fun y hy=>by rw[h1,rE_at hy]
 exact (map_set_same F fun y hy=>by rw[h2,rE_at hy]).trans e1
theorem updL_map {β:Type} (F:PV->β) (h1:∀ s e,F (nmE s e)=F e) (h2:∀ d e,F (dsE d e)=F e) (nm:List PV):∀ (n:Nat) (i:Int) (es:List PV),(updL nm i n es).map F=es.map F
 | 0,_,_=>rfl
 | n+1,i,es=>by
  unfold updL
  rw[updL_map F h1 h2 nm n]; exact esD_map F h1 h2 ..
theorem madeN_map {β:Type} (F:PV->β) (h1:∀ s e,F (nmE s e)=F e) (h2:∀ d e,F (dsE d e)=F e) (L nm:List PV):(madeN L nm).map F=(fineW L).map F:=updL_map F h1 h2 ..
theorem all_of_map {β:Type} {F:PV->β} {p:β->Bool} {l l':List PV} (h:l.map F=l'.map F) (h2:l'.all (fun e=>p (F e))=true):l.all (fun e=>p (F e))=true:=by
 rw[List.all_eq_true] at h2 ⊢
 intro e he
 have:F e ∈ l'.map F:=by rw[<- h]; exact List.mem_map_of_mem he
 obtain ⟨d,hd,hx⟩:=List.mem_map.1 this
 rw[<- hx]
 exact h2 d hd
theorem madeN_okW (L nm:List PV):okW (madeN L nm)=true:=by
 have h:=fine_okW L
 unfold okW at h ⊢
 rw[madeN_len]
 rw[Bool.and_eq_true] at h ⊢
 exact ⟨h.1,all_of_map (F:=wL) (p:=stB) (madeN_map wL (fun _ _=>rfl) (fun _ _=>rfl) L nm) h.2⟩
theorem madeN_okB (L nm:List PV):okB (madeN L nm)=true:=by
 have h:=fine_okB L
 unfold okB at h ⊢
 rw[Bool.and_eq_true] at h ⊢
 refine ⟨?_,all_of_map (F:=wL) (p:=An) (madeN_map wL (fun _ _=>rfl) (fun _ _=>rfl) L nm) h.2⟩
 rw[show An (madeN L nm)=An (fineW L) by unfold An; rw[madeN_len]]
 exact h.1
end Go.Hn
/- Thin: the law ThinCans. -/
namespace Go.Hn
open Go.Hx Go.Hg Go.Proofs
noncomputable def TZ4:Ad:=((TZ3.addRE 43 cAllS).addRE 44 cAllS).addV 8 4 [5,7,8,9]
theorem okTZ4:Ab Tryz.prog TZ4.env:=((okTZ3.addRE eAll oAllS).addRE eAlR oAlS).addV 8 4 [5,7,8,9]
noncomputable abbrev sZ0 (h:Bool) (Q:List PV) (qi qd i:Int) (M F ws:List PV) (d:PV):LS:=lZc true i 0 h Q qi qd false [place0] false M false F 1 1 false ws d qi (W (Int.tmod qi 6+1)) 0 1
noncomputable def evZ (ws:List PV) (d:Int) (k:Option PV):Option PV:=bif okC ws then bif okC ws then bif decide ((alL ws d 0 ws.length).length<=1000)&&same (alL ws d 0 ws.length) (alL ws d 0 ws.length) then k else none else none else none
theorem qTZ (f:Bool) (L:List PV) (g:Bool) (nm:List PV) (h:Bool) (Q:List PV) (qi qd:Int):Ah Tryz.prog TZ4 100 8 [.Ac f 3 L,.Ac g 5 nm,.agg [.Ac h 44 Q,iv qi,iv qd]] =
 bif okN nm then bif pZ (sZ0 h Q qi qd 0 (madeN L nm) (fewW Q) (madeN L nm) nilV) then evZ (madeN L nm) 1 (evZ (madeN L nm) qd (
  bif pZ (sZ0 h Q qi qd 1 (madeN L nm) (fewW Q) (fewW Q) dP) then evZ (fewW Q) 1 (evZ (fewW Q) qd (some (bv true))) else none)) else none else none:=by kernel_rfl
theorem alL_len (ws:List PV) (d:Int):∀ (n:Nat) (k:Int),(alL ws d k n).length<=n
 | 0,_=>Nat.le_refl _
 | n+1,k=>by
  unfold alL
  have:=alL_len ws d n (k+1)
  cases goB ws d k with
  | true=>rw[cond_true,List.length_cons]; omega
  | false=>rw[cond_false]; omega
theorem evZ_eq {ws:List PV} (h:okC ws=true) (d:Int) (k:Option PV):evZ ws d k=k:=by
 have h6:=okC_len h
 have:=alL_len ws d ws.length 0
 unfold evZ
 rw[h,decide_eq_true (show (alL ws d 0 ws.length).length<=1000 by omega),show same (alL ws d 0 ws.length) (alL ws d 0 ws.length)=true from same_iff.2 rfl]
 rfl
theorem madeN_ap (L nm:List PV):okAp (madeN L nm)=true:=by
 unfold okAp okC okWg
 rw[madeN_okW,madeN_okB,Bool.true_or,Bool.true_and,Bool.true_and]
 refine all_of_map (F:=wL) (p:=fun l=>decide (l.length<=1000)) (madeN_map wL (fun _ _=>rfl) (fun _ _=>rfl) L nm) ?_
 rw[List.all_eq_true]
 intro e he
 obtain ⟨k,a,_,_,rfl⟩:=made_mem ((fine_facts L).1.subset he)
 rw[wL_mW]
 have:=mPs_len L a
 exact decide_eq_true (by omega)
theorem line_ok {L:List PV} (h:L.length<=1000):okLn5 L=true:=by
 unfold okLn5
 by_cases h0:L.length=0
 ·rw[show emB L=true by unfold emB; rw[h0]; rfl]; rfl
 ·have hb:An L=true:=decide_eq_true (by omega)
  have h1:((L.length:Int)==0)=false:=beq_eq_false_iff_ne.2 (by omega)
  obtain ⟨a,b⟩:=stB_of hb h1
  rw[show stB L=true by unfold stB; rw[h1,a,b]; rfl,Bool.or_true]
theorem fewW_ap (Q:List PV):okAp (fewW Q)=true:=by
 have h5:=fewW_len Q
 have hl:∀ e ∈ fewW Q,(wL e).length<=6:=fun e he=>fewW_line Q he
 unfold okAp okC okWg okW5 okB
 rw[decide_eq_true h5,show ((fewW Q).all fun e=>okLn5 (wL e))=true from List.all_eq_true.2 fun e he=>line_ok (by have:=hl e he; omega),
  show An (fewW Q)=true from decide_eq_true (by omega),show ((fewW Q).all fun e=>An (wL e))=true from List.all_eq_true.2 fun e he=>decide_eq_true (by have:=hl e he; omega),
  show (fewW Q).all okE1=true from List.all_eq_true.2 fun e he=>decide_eq_true (by have:=hl e he; omega)]
 rw[Bool.and_self,Bool.or_true]; rfl
theorem lawZ (f g h:Bool) (L nm Q:List PV) (qi qd:Int) (hn:okN nm=true):Hx.Enters Tryz.prog 8/\Ak Tryz.prog 8 [.Ac f 3 L,.Ac g 5 nm,.agg [.Ac h 44 Q,iv qi,iv qd]] (bv true):=by
 refine Aa okTZ4 (n:=100) ?_
 have c1:okC (madeN L nm)=true:=by have:=madeN_ap L nm; unfold okAp at this; rw[Bool.and_eq_true] at this; exact this.1
 have c2:okC (fewW Q)=true:=by have:=fewW_ap Q; unfold okAp at this; rw[Bool.and_eq_true] at this; exact this.1
 rw[qTZ,hn,evZ_eq c1,evZ_eq c1,evZ_eq c2,evZ_eq c2,
  show pZ (sZ0 h Q qi qd 0 (madeN L nm) (fewW Q) (madeN L nm) nilV)=true by simp only[pZ,Bool.and_eq_true,decide_eq_true_eq]; exact ⟨Int.le_refl _,madeN_ap L nm,rfl⟩,
  show pZ (sZ0 h Q qi qd 1 (madeN L nm) (fewW Q) (fewW Q) dP)=true by simp only[pZ,Bool.and_eq_true,decide_eq_true_eq]; exact ⟨Int.le_refl _,fewW_ap Q,by simp only[dOk,Bool.and_eq_true,same_iff]; exact ⟨trivial,trivial⟩⟩]
 rfl
end Go.Hn
