/- Network: the reference's Check as a contract. -/
import Derived.Test.YtliaeiggcleoaaaGreatPart9
import Derived.Test.YtliaeiggcleoaaaGreatPart10
import Derived.Test.YtliaeiggcleoaaaGreatPart7
namespace Go.Hn
open Go.Hx Go.Hg Go.Proofs
noncomputable def X0:Ad:=E73
theorem okX0:Ab Tryz.prog X0.env:=ok73
abbrev wayX:Hx.X1:=.agg [I64,.Ac 37,I64,.str,.str,.bool,I64,I64]
def shA1:Hx.S1:=⟨84,[(0,.Ac 44),(3,I64),(4,.ptr 0 1 0 0),(5,I64)],[.onef 44 8 wayX]⟩
abbrev lA1 (f:Bool) (ws:List PV) (i k:Int) (id:Int) (g:Bool) (M:List PV) (lv:Int) (c n:ByteArray) (s:Bool) (wt ds:Int):LS:=([.l f ws,.i i,.i k],[.i id,.l g M,.i lv,.s c,.s n,.b s,.i wt,.i ds])
noncomputable abbrev hA1 (id:Int) (g:Bool) (M:List PV) (lv:Int) (c n:ByteArray) (s:Bool) (wt ds:Int):List Row:=(shA1.put (lA1 true [] 0 0 id g M lv c n s wt ds)).2
theorem qA1 (f:Bool) (ws:List PV) (i k:Int) (id:Int) (g:Bool) (M:List PV) (lv:Int) (c n:ByteArray) (s:Bool) (wt ds:Int):
 Al Tryz.prog X0 60 16 (Ao Tryz.f16 10) [0,3,4,5] [0,2,3,4] (shA1.put (lA1 f ws i k id g M lv c n s wt ds)).1 (shA1.put (lA1 f ws i k id g M lv c n s wt ds)).2 =
 bif decide (k<i) then bif inr ws k then bif wN ws k==id then some (.ret,tm 84 [(0,.Ac f 44 ws),(2,iv 6),(3,iv i),(4,.ptr 0 1 0 0)],hA1 id g M lv c n s wt ds)
  else some (.normal,shA1.put (lA1 f ws i (W (k+1)) id g M lv c n s wt ds)) else none
 else some (.exit 2,tm 84 [(0,.Ac f 44 ws),(3,iv i),(4,.ptr 0 1 0 0)],hA1 id g M lv c n s wt ds):=by kernel_rfl
def anyI (ws:List PV) (id:Int):Int->Nat->Bool
 | _,0=>false
 | k,n+1=>(wN ws k==id)||anyI ws id (k+1) n
def pA1:LS->Bool
 | ([.l _ ws,.i i,.i k],[.i _,.l _ _,.i _,.s _,.s _,.b _,.i _,.i _])=>decide (0<=k)&&decide (i<(ws.length:Int))&&An ws
 | _=>false
noncomputable def fA1:LS->DT (PX × List PV × List Row)
 | ([.l f ws,.i i,.i k],[.i id,.l g M,.i lv,.s c,.s n,.b s,.i wt,.i ds]) =>
  .br (anyI ws id k (i-k).toNat) (.leaf (.ret,tm 84 [(0,.Ac f 44 ws),(2,iv 6),(3,iv i),(4,.ptr 0 1 0 0)],hA1 id g M lv c n s wt ds)) (.leaf (.exit 2,tm 84 [(0,.Ac f 44 ws),(3,iv i),(4,.ptr 0 1 0 0)],hA1 id g M lv c n s wt ds))
 | _=>.no
def mA1:LS->Nat
 | ([.l _ _,.i i,.i k],[.i _,.l _ _,.i _,.s _,.s _,.b _,.i _,.i _])=>(i-k).toNat
 | _=>0
theorem sA1:∀ s r,pA1 s=true->(fA1 s).run=some r->r.1 ≠ .normal/\(Al Tryz.prog X0 60 16 (Ao Tryz.f16 10) [0,3,4,5] [0,2,3,4] (shA1.put s).1 (shA1.put s).2=some r \/
   ∃ s',Al Tryz.prog X0 60 16 (Ao Tryz.f16 10) [0,3,4,5] [0,2,3,4] (shA1.put s).1 (shA1.put s).2=some (.normal,shA1.put s')/\pA1 s'=true/\mA1 s'<mA1 s/\(fA1 s').run=some r):=by
 intro t r hp hr
 unfold pA1 at hp; split at hp
 ·rename_i f ws i k id g M lv c n s wt ds
  simp only[Bool.and_eq_true,decide_eq_true_eq] at hp
  obtain ⟨⟨h1,h2⟩,h3⟩:=hp
  have hr':=run_br2 hr
  refine ⟨by rw[hr']; cases anyI ws id k (i-k).toNat <;> simp,?_⟩
  rw[show shA1.put ([.l f ws,.i i,.i k],[.i id,.l g M,.i lv,.s c,.s n,.b s,.i wt,.i ds])=shA1.put (lA1 f ws i k id g M lv c n s wt ds) from rfl,qA1]
  by_cases hk:k<i
  ·rw[decide_eq_true hk,cond_true,Am h1 (by omega),cond_true,W_id (n:=k+1) (by omega) (by omega)]
   obtain ⟨m,hm⟩:∃ m,(i-k).toNat=m+1:=⟨(i-k).toNat-1,by omega⟩
   have hm2:(i-(k+1)).toNat=m:=by omega
   rw[hm] at hr'
   simp only[anyI] at hr'
   cases he:wN ws k==id with
   | true=>rw[he] at hr'; exact .inl (by rw[hr']; rfl)
   | false =>
    rw[he] at hr'
    refine .inr ⟨lA1 f ws i (k+1) id g M lv c n s wt ds,rfl,by simp only[pA1,Bool.and_eq_true,decide_eq_true_eq]; exact ⟨⟨by omega,h2⟩,h3⟩,by simp only[mA1]; omega,?_⟩
    rw[hr']
    simp only[fA1,hm2,Bool.false_or]
    cases anyI ws id (k+1) m <;> rfl
  ·rw[decide_eq_false hk]
   rw[show (i-k).toNat=0 by omega] at hr'
   exact .inl (by rw[hr']; rfl)
 ·cases hp
noncomputable def X1:Ad:=X0.addW 16 10 [0,3,4,5] [] shA1 pA1 fA1
theorem okX1:Ab Tryz.prog X1.env:=
 okX0.addW (n:=60) Tryz.func16 (show Tryz.f16.body=some (bod Tryz.f16) by kernel_rfl) (show (loops (bod Tryz.f16)).filter (fun b=>rid b==10)=[Ao Tryz.f16 10] by kernel_rfl) [0,3,4,5] [0,2,3,4] [] shA1 mA1 sA1
def shA2:Hx.S1:=⟨84,[(0,.Ac 44),(3,I64),(4,.ptr 0 1 0 0),(7,I64)],[.onef 44 8 wayX]⟩
theorem qA2 (f:Bool) (ws:List PV) (i k:Int) (id:Int) (g:Bool) (M:List PV) (lv:Int) (c n:ByteArray) (s:Bool) (wt ds:Int):
 Al Tryz.prog X1 60 16 (Ao Tryz.f16 20) [0,3,4,7] [0,2,3,4] (shA2.put (lA1 f ws i k id g M lv c n s wt ds)).1 (shA2.put (lA1 f ws i k id g M lv c n s wt ds)).2 =
 bif decide (k<i) then bif inr ws k then bif wLv (ws.getD k.toNat .any)==lv then bif inr ws k then bif big (wL (ws.getD k.toNat .any))&&big M then bif crx (wL (ws.getD k.toNat .any)) M then
   some (.ret,tm 84 [(0,.Ac f 44 ws),(2,iv 16),(3,iv i),(4,.ptr 0 1 0 0)],hA1 id g M lv c n s wt ds)
  else some (.normal,shA2.put (lA1 f ws i (W (k+1)) id g M lv c n s wt ds)) else none else none
  else some (.normal,shA2.put (lA1 f ws i (W (k+1)) id g M lv c n s wt ds)) else none
 else some (.exit 4,tm 84 [(0,.Ac f 44 ws),(3,iv i),(4,.ptr 0 1 0 0)],hA1 id g M lv c n s wt ds):=by kernel_rfl
def anyC (ws:List PV) (lv:Int) (M:List PV):Int->Nat->Bool
 | _,0=>false
 | k,n+1=>((wLv (ws.getD k.toNat .any)==lv)&&crx (wL (ws.getD k.toNat .any)) M)||anyC ws lv M (k+1) n
def pA2:LS->Bool
 | ([.l _ ws,.i i,.i k],[.i _,.l _ M,.i _,.s _,.s _,.b _,.i _,.i _])=>decide (0<=k)&&decide (i<(ws.length:Int))&&okB ws&&big M
 | _=>false
noncomputable def fA2:LS->DT (PX × List PV × List Row)
 | ([.l f ws,.i i,.i k],[.i id,.l g M,.i lv,.s c,.s n,.b s,.i wt,.i ds]) =>
  .br (anyC ws lv M k (i-k).toNat) (.leaf (.ret,tm 84 [(0,.Ac f 44 ws),(2,iv 16),(3,iv i),(4,.ptr 0 1 0 0)],hA1 id g M lv c n s wt ds)) (.leaf (.exit 4,tm 84 [(0,.Ac f 44 ws),(3,iv i),(4,.ptr 0 1 0 0)],hA1 id g M lv c n s wt ds))
 | _=>.no
theorem sA2:∀ s r,pA2 s=true->(fA2 s).run=some r->r.1 ≠ .normal/\(Al Tryz.prog X1 60 16 (Ao Tryz.f16 20) [0,3,4,7] [0,2,3,4] (shA2.put s).1 (shA2.put s).2=some r \/
   ∃ s',Al Tryz.prog X1 60 16 (Ao Tryz.f16 20) [0,3,4,7] [0,2,3,4] (shA2.put s).1 (shA2.put s).2=some (.normal,shA2.put s')/\pA2 s'=true/\mA1 s'<mA1 s/\(fA2 s').run=some r):=by
 intro t r hp hr
 unfold pA2 at hp; split at hp
 ·rename_i f ws i k id g M lv c n s wt ds
  simp only[Bool.and_eq_true,decide_eq_true_eq] at hp
  obtain ⟨⟨⟨h1,h2⟩,h3⟩,h4⟩:=hp
  have hr':=run_br2 hr
  have hb:=okB_len h3
  refine ⟨by rw[hr']; cases anyC ws lv M k (i-k).toNat <;> simp,?_⟩
  rw[show shA2.put ([.l f ws,.i i,.i k],[.i id,.l g M,.i lv,.s c,.s n,.b s,.i wt,.i ds])=shA2.put (lA1 f ws i k id g M lv c n s wt ds) from rfl,qA2]
  by_cases hk:k<i
  ·have hbg:(big (wL (ws.getD k.toNat .any))&&big M)=true:=by
    have:=okB_at h3 h1 (show k<(ws.length:Int) by omega)
    simp only[decide_eq_true_eq] at this
    rw[Bool.and_eq_true]; exact ⟨by simpa using this,by simpa using h4⟩
   rw[decide_eq_true hk,cond_true,Am h1 (by omega),hbg,W_id (n:=k+1) (by omega) (by omega)]
   obtain ⟨m,hm⟩:∃ m,(i-k).toNat=m+1:=⟨(i-k).toNat-1,by omega⟩
   have hm2:(i-(k+1)).toNat=m:=by omega
   rw[hm] at hr'
   simp only[anyC] at hr'
   have go:((wLv (ws.getD k.toNat .any)==lv)&&crx (wL (ws.getD k.toNat .any)) M)=false->r=bif anyC ws lv M (k+1) m then (.ret,tm 84 [(0,.Ac f 44 ws),(2,iv 16),(3,iv i),(4,.ptr 0 1 0 0)],hA1 id g M lv c n s wt ds) else (.exit 4,tm 84 [(0,.Ac f 44 ws),(3,iv i),(4,.ptr 0 1 0 0)],hA1 id g M lv c n s wt ds):=fun h=>by
    rw[h,Bool.false_or] at hr'; exact hr'
   have nxt:r=(bif anyC ws lv M (k+1) m then (.ret,tm 84 [(0,.Ac f 44 ws),(2,iv 16),(3,iv i),(4,.ptr 0 1 0 0)],hA1 id g M lv c n s wt ds) else (.exit 4,tm 84 [(0,.Ac f 44 ws),(3,iv i),(4,.ptr 0 1 0 0)],hA1 id g M lv c n s wt ds)) ->
     pA2 (lA1 f ws i (k+1) id g M lv c n s wt ds)=true/\mA1 (lA1 f ws i (k+1) id g M lv c n s wt ds)<mA1 (lA1 f ws i k id g M lv c n s wt ds)/\(fA2 (lA1 f ws i (k+1) id g M lv c n s wt ds)).run=some r:=fun h=>by
    refine ⟨by simp only[pA2,Bool.and_eq_true,decide_eq_true_eq]; exact ⟨⟨⟨by omega,h2⟩,h3⟩,h4⟩,by simp only[mA1]; omega,?_⟩
    rw[h]
    simp only[fA2,hm2]
    cases anyC ws lv M (k+1) m <;> rfl
   cases he:wLv (ws.getD k.toNat .any)==lv with
   | false=>exact .inr ⟨lA1 f ws i (k+1) id g M lv c n s wt ds,rfl,nxt (go (by rw[he]; rfl))⟩
   | true =>
    cases hx:crx (wL (ws.getD k.toNat .any)) M with
    | false=>exact .inr ⟨lA1 f ws i (k+1) id g M lv c n s wt ds,rfl,nxt (go (by rw[he,hx]; rfl))⟩
    | true=>rw[he,hx] at hr'; exact .inl (by rw[hr']; rfl)
  ·rw[decide_eq_false hk]
   rw[show (i-k).toNat=0 by omega] at hr'
   exact .inl (by rw[hr']; rfl)
 ·cases hp
noncomputable def X2:Ad:=X1.addW 16 20 [0,3,4,7] [] shA2 pA2 fA2
theorem okX2:Ab Tryz.prog X2.env:=
 okX1.addW (n:=60) Tryz.func16 (show Tryz.f16.body=some (bod Tryz.f16) by kernel_rfl) (show (loops (bod Tryz.f16)).filter (fun b=>rid b==20)=[Ao Tryz.f16 20] by kernel_rfl) [0,3,4,7] [0,2,3,4] [] shA2 mA1 sA2
end Go.Hn
/- Thin: find as a contract: the first way with a number. -/
namespace Go.Hn
open Go.Hx Go.Hg Go.Proofs
def fiW (ws:List PV) (id:Int):Int->Nat->Int
 | _,0 => -1
 | k,n+1=>bif wN ws k==id then k else fiW ws id (k+1) n
theorem fiW_none {ws:List PV} {id:Int}:∀ (n:Nat) (k:Int),anyI ws id k n=false->fiW ws id k n = -1
 | 0,_,_=>rfl
 | n+1,k,h=>by
  unfold anyI at h
  rw[Bool.or_eq_false_iff] at h
  unfold fiW
  rw[h.1,cond_false,fiW_none n (k+1) h.2]
def shT0:Hx.S1:=⟨19,[(0,.Ac 44),(1,.fn 123 [] [.ptr 0 1 0 0]),(7,I64),(8,I64)],[.one 3 1 I64]⟩
abbrev lT0 (f:Bool) (ws:List PV) (n k:Int) (id:Int):LS:=([.l f ws,.i n,.i k],[.i id])
noncomputable abbrev hT0 (id:Int):List Row:=(shT0.put (lT0 true [] 0 0 id)).2
theorem qT0 (f:Bool) (ws:List PV) (n k id:Int):runBr Tryz.prog TA0 60 1 92 (Ao Tryz.f92 2) [0,1,7,8] [4] (shT0.put (lT0 f ws n k id)).1 (shT0.put (lT0 f ws n k id)).2 =
 bif decide (k<n) then bif inr ws k then bif wN ws k==id then some (.ret,tm 19 [(4,iv k)],hT0 id) else some (.normal,shT0.put (lT0 f ws n (W (k+1)) id)) else none
 else some (.exit 0,tm 19 [],hT0 id):=by kernel_rfl
def pT0:LS->Bool
 | ([.l _ ws,.i n,.i k],[.i _])=>decide (0<=k)&&decide (n=(ws.length:Int))&&An ws
 | _=>false
noncomputable def fT0:LS->DT (PX × List PV × List Row)
 | ([.l _ ws,.i n,.i k],[.i id])=>.br (anyI ws id k (n-k).toNat) (.leaf (.ret,tm 19 [(4,iv (fiW ws id k (n-k).toNat))],hT0 id)) (.leaf (.exit 0,tm 19 [],hT0 id))
 | _=>.no
def mT0:LS->Nat
 | ([.l _ _,.i n,.i k],[.i _])=>(n-k).toNat
 | _=>0
theorem sT0:∀ s r,pT0 s=true->(fT0 s).run=some r->r.1 ≠ .normal/\(runBr Tryz.prog TA0 60 1 92 (Ao Tryz.f92 2) [0,1,7,8] [4] (shT0.put s).1 (shT0.put s).2=some r \/
   ∃ s',runBr Tryz.prog TA0 60 1 92 (Ao Tryz.f92 2) [0,1,7,8] [4] (shT0.put s).1 (shT0.put s).2=some (.normal,shT0.put s')/\pT0 s'=true/\mT0 s'<mT0 s/\(fT0 s').run=some r):=by
 intro t r hp hr
 unfold pT0 at hp; split at hp
 ·rename_i f ws n k id
  simp only[Bool.and_eq_true,decide_eq_true_eq] at hp
  obtain ⟨⟨h1,rfl⟩,h3⟩:=hp
  have hr':=run_br2 hr
  refine ⟨by rw[hr']; cases anyI ws id k ((ws.length:Int)-k).toNat <;> simp,?_⟩
  rw[show shT0.put ([.l f ws,.i (ws.length:Int),.i k],[.i id])=shT0.put (lT0 f ws (ws.length:Int) k id) from rfl,qT0]
  by_cases hk:k<(ws.length:Int)
  ·rw[decide_eq_true hk,cond_true,Am h1 hk,cond_true,W_id (n:=k+1) (by omega) (by omega)]
   obtain ⟨m,hm⟩:∃ m,((ws.length:Int)-k).toNat=m+1:=⟨((ws.length:Int)-k).toNat-1,by omega⟩
   have hm2:((ws.length:Int)-(k+1)).toNat=m:=by omega
   rw[hm] at hr'
   simp only[anyI,fiW] at hr'
   cases he:wN ws k==id with
   | true=>rw[he] at hr'; exact .inl (by rw[hr']; rfl)
   | false =>
    rw[he] at hr'
    refine .inr ⟨lT0 f ws (ws.length:Int) (k+1) id,rfl,by simp only[pT0,Bool.and_eq_true,decide_eq_true_eq]; exact ⟨⟨by omega,trivial⟩,h3⟩,by simp only[mT0]; omega,?_⟩
    rw[hr']
    simp only[fT0,hm2,Bool.false_or,cond_false]
    cases anyI ws id (k+1) m <;> rfl
  ·rw[decide_eq_false hk]
   rw[show ((ws.length:Int)-k).toNat=0 by omega] at hr'
   exact .inl (by rw[hr']; rfl)
 ·cases hp
noncomputable def TA1:Ad:=TA0.addWr 1 92 2 [0,1,7,8] shT0 pT0 fT0
theorem okTA1:Ab Tryz.prog TA1.env:=
 okTA0.addWr (n:=60) (q:=1) Tryz.func92 (show Tryz.f92.body=some (bod Tryz.f92) by kernel_rfl) (show (loops (bod Tryz.f92)).filter (fun b=>rid b==2)=[Ao Tryz.f92 2] by kernel_rfl) [0,1,7,8] [4] shT0 mT0 sT0
theorem qIx (f:Bool) (ws:List PV) (id:Int):runSE Tryz.prog TA1 60 92 [.Ac f 44 ws,.fn (.func 123) [] [.ptr 0 1 0 0]] [r1 3 1 (iv id)] =
 bif pT0 (lT0 f ws (ws.length:Int) 0 id) then bif anyI ws id 0 ((ws.length:Int)-0).toNat then some (iv (fiW ws id 0 ((ws.length:Int)-0).toNat)) else some (iv (-1)) else none:=by kernel_rfl
theorem qIx' (f:Bool) (ws:List PV) (id:Int) (h:An ws=true):runSE Tryz.prog TA1 60 92 [.Ac f 44 ws,.fn (.func 123) [] [.ptr 0 1 0 0]] [r1 3 1 (iv id)]=some (iv (fiW ws id 0 ws.length)):=by
 rw[qIx,show pT0 (lT0 f ws (ws.length:Int) 0 id)=true by simp only[pT0,Bool.and_eq_true,decide_eq_true_eq]; exact ⟨⟨Int.le_refl _,trivial⟩,of_decide_eq_true h⟩,show ((ws.length:Int)-0).toNat=ws.length by omega]
 cases ha:anyI ws id 0 ws.length with
 | true=>rfl
 | false=>rw[fiW_none _ _ ha]; rfl
def rowI:Row->Option Int
 | ⟨[.val (.int .i64 id)],1,3,true,true,false,none,false⟩=>some id
 | _=>none
theorem rowI_some {r:Row} {id:Int} (h:rowI r=some id):r=r1 3 1 (iv id):=by
 unfold rowI at h
 split at h
 ·cases h; rfl
 ·cases h
def cIx:List PV->List Row->Option (DT PV)
 | [.Ac _ 44 ws,.fn (.func 123) [] [.ptr 0 1 0 0]],[r] =>
  match rowI r with
  | some id=>some (.br (An ws) (.leaf (iv (fiW ws id 0 ws.length))) .no)
  | none=>none
 | _,_=>none
theorem eIx:Hx.Enters Tryz.prog 92:=(runSE_sound okTA1 (qIx' true [] 0 rfl)).1
theorem oIx (args:List PV) (H:List Row) (d:DT PV) (p:PV) (h:cIx args H=some d) (hr:d.run=some p):RCall Tryz.prog H.length 92 args H p H:=by
 unfold cIx at h
 split at h
 ·split at h
  ·rename_i f ws r _ id hD
   cases h
   obtain ⟨h1,rfl⟩:=Aq hr
   rw[rowI_some hD]
   exact (runSE_sound okTA1 (qIx' f ws id h1)).2
  ·cases h
 ·cases h
noncomputable def TB0:Ad:=((({}:Ad).addEnt Tryz.prog kth).addKeys Tryz.prog kth).addRE 92 cIx
theorem okTB0:Ab Tryz.prog TB0.env:=((Ab.addEnt Af kth_ok).addKeys kth_ok).addRE eIx oIx
abbrev nilV:PV:=.val (.slice none 0 0)
def nlB (t:TypeId):PV->Bool
 | .val (.slice none 0 0)=>true
 | .Ac _ t' _=>t==t'
 | _=>false
theorem nlB_cases {t:TypeId} {p:PV} (h:nlB t p=true):p=nilV\/∃ f es,p=.Ac f t es:=by
 unfold nlB at h
 split at h
 ·exact .inl rfl
 ·rename_i f t' es; simp only[beq_iff_eq] at h; subst h; exact .inr ⟨f,es,rfl⟩
 ·cases h
def nlM (a b d:PV):Bool:=nlB 120 a&&nlB 124 b&&nlB 68 d
theorem nlM_cases {P:PV->PV->PV->Prop} {a b d:PV} (h:nlM a b d=true)
  (h1:P nilV nilV nilV) (h2:∀ i ds,P nilV nilV (.Ac i 68 ds)) (h3:∀ g bs,P nilV (.Ac g 124 bs) nilV) (h4:∀ g bs i ds,P nilV (.Ac g 124 bs) (.Ac i 68 ds))
  (h5:∀ f es,P (.Ac f 120 es) nilV nilV) (h6:∀ f es i ds,P (.Ac f 120 es) nilV (.Ac i 68 ds)) (h7:∀ f es g bs,P (.Ac f 120 es) (.Ac g 124 bs) nilV) (h8:∀ f es g bs i ds,P (.Ac f 120 es) (.Ac g 124 bs) (.Ac i 68 ds)):P a b d:=by
 unfold nlM at h
 simp only[Bool.and_eq_true] at h
 rcases nlB_cases h.1.1 with rfl | ⟨f,es,rfl⟩ <;> rcases nlB_cases h.1.2 with rfl | ⟨g,bs,rfl⟩ <;> rcases nlB_cases h.2 with rfl | ⟨i,ds,rfl⟩
 ·exact h1
 ·exact h2 _ _
 ·exact h3 _ _
 ·exact h4 _ _ _ _
 ·exact h5 _ _
 ·exact h6 _ _ _ _
 ·exact h7 _ _ _ _
 ·exact h8 _ _ _ _ _ _
abbrev mapv (a b:PV) (f:Bool) (ws:List PV) (d:PV):PV:=.agg [a,b,.Ac f 44 ws,d]
theorem qFind (a b:PV) (f:Bool) (ws:List PV) (d:PV) (id:Int) (h:nlM a b d=true):Ah Tryz.prog TB0 60 80 [mapv a b f ws d,iv id]=bif An ws then some (iv (fiW ws id 0 ws.length)) else none:=by
 revert h
 refine fun h=>nlM_cases (P:=fun a b d=>Ah Tryz.prog TB0 60 80 [mapv a b f ws d,iv id]=bif An ws then some (iv (fiW ws id 0 ws.length)) else none) h ?_ ?_ ?_ ?_ ?_ ?_ ?_ ?_
 ·kernel_rfl
 ·intro i ds; kernel_rfl
 ·intro g bs; kernel_rfl
 ·intro g bs i ds; kernel_rfl
 ·intro f' es; kernel_rfl
 ·intro f' es i ds; kernel_rfl
 ·intro f' es g bs; kernel_rfl
 ·intro f' es g bs i ds; kernel_rfl
def cFi:List PV->Option (DT PV)
 | [.agg [a,b,.Ac _ 44 ws,d],.val (.int .i64 id)]=>some (.br (nlM a b d&&An ws) (.leaf (iv (fiW ws id 0 ws.length))) .no)
 | _=>none
theorem eFi:Hx.Enters Tryz.prog 80:=(Aa okTB0 (n:=60) (Eq.trans (qFind nilV nilV true [] nilV 0 rfl) rfl)).1
theorem oFi (args:List PV) (d:DT PV) (r:PV) (h:cFi args=some d) (hr:d.run=some r):Ak Tryz.prog 80 args r:=by
 unfold cFi at h; split at h
 ·cases h
  obtain ⟨h1,rfl⟩:=Aq hr
  rw[Bool.and_eq_true] at h1
  exact (Aa okTB0 (n:=60) (Eq.trans (qFind _ _ _ _ _ _ h1.1) (by rw[h1.2]; rfl))).2
 ·cases h
noncomputable def TB1:Ad:=TB0.Ag 80 cFi
theorem okTB1:Ab Tryz.prog TB1.env:=okTB0.Ag eFi oFi
end Go.Hn
/- Network: Groups of any ways: the stops of a way that may have no points. -/
namespace Go.Hn
open Go.Hx Go.Hg Go.Proofs
abbrev emB (L:List PV):Bool:=(L.length:Int)==0
def cStp3:List PV->Option (DT PV)
 | [.agg [.val (.int .i64 _),.Ac _ 37 L,.val (.int .i64 lv),.val (.string _),.val (.string _),.val (.bool _),.val (.int .i64 _),.val (.int .i64 _)]]=>some (.br (emB L) (.leaf (.val (.slice none 0 0))) (.br (stB L) (.leaf (.Ac false 39 [stF L lv,stL L lv])) .no))
 | _=>none
theorem oStp3 (args:List PV) (d:DT PV) (r:PV) (h:cStp3 args=some d) (hr:d.run=some r):Ak Tryz.prog 60 args r:=by
 unfold cStp3 at h; split at h
 ·rename_i i f L lv cs nm st wt ds
  cases h
  cases he:emB L with
  | true =>
   rw[he] at hr
   cases hr
   have:=qStops0 i f L lv cs nm st wt ds
   rw[show ((L.length:Int)==0)=true from he] at this
   exact (Aa ok2 (n:=60) this).2
  | false =>
   rw[he] at hr
   obtain ⟨h1,rfl⟩:=Aq (show (DT.br (stB L) (.leaf (.Ac false 39 [stF L lv,stL L lv])) .no).run=some r from hr)
   exact (Aa ok2 (n:=60) (qStops i f L lv cs nm st wt ds h1)).2
 ·cases h
noncomputable def M4:Ad:=(((N2.addR 58 cJoin).Ag 60 cStp3).addChain 18 8).addChain 18 23
theorem okM4:Ab Tryz.prog M4.env:=(((ok2.addR eJoin oJoin).Ag eStops oStp3).addChain 18 8).addChain 18 23
noncomputable def rdZ (S:List PV) (H:List Row):Option (PX × List PV × List Row):=runG Tryz.prog M4 80 18 (Ao Tryz.f18 12) 3 [2,5,9,45,46,47] [2] keepG S H
end Go.Hn
/- Network: Groups of any ways: the rounds of its second loop (printed by genzb.py). -/
namespace Go.Hn
open Go.Hx Go.Hg Go.Proofs
def apv3 (M:List (Option S3)):List (PV × PV):=M.zipIdx.filterMap fun x=>x.1.map fun s=>(sv s,iv (x.2:Int))
def find3 (r:PV):List (Option S3)->Nat->Option Nat
 | [],_=>none
 | some s::M,q=>bif keq r (sv s) then some q else find3 r M (q+1)
 | none::M,q=>find3 r M (q+1)
abbrev R3:=List (PV × PV) × List (Option S3) × List (List PV × Nat)
def step3 (D:List (PV × PV)) (M:List (Option S3)) (G:List (List PV × Nat)) (e:PV):Option R3:=
 bif emB (wL e) then some (D,M++[none],G++[([iv (wI e)],1)]) else
 bif okE D e then
  match find3 (rtE D e) M 0 with
  | some q=>match G[q]? with | some g=>bif gr g.1 g.2 then some (clE D e,M,G.set q (g.1++[iv (wI e)],g.2+1)) else none | none=>none
  | none=>some (clE D e,M++[some (rt3 D e)],G++[([iv (wI e)],1)])
 else none
section
variable (D:List (PV × PV)) (f:Bool) (ws:List PV) (len j:Int)
noncomputable abbrev nx3 (r:R3):Option (PX × List PV × List Row):=some (.normal,S2 f ws r.2.2 len (W (j+1)),H2 r.1 (apv3 r.2.1) r.2.2)
noncomputable def z3b (e:PV) (k:Option (PX × List PV × List Row)):List (Option S3)->Option (PX × List PV × List Row)
 | []=>k
 | some s::M=>bif keq (rtE D e) (sv s) then none else z3b e k M
 | none::M=>z3b e k M
noncomputable def z3a (e:PV) (M0:List (Option S3)) (G:List (List PV × Nat)) (k:Option (PX × List PV × List Row)):List (Option S3)->Nat->Option (PX × List PV × List Row)
 | [],_=>k
 | some s::M,q=>bif keq (rtE D e) (sv s) then (match G[q]? with | some g=>ap1 g.1 g.2 (nx3 f ws len j (clE D e,M0,G.set q (g.1++[iv (wI e)],g.2+1))) | none=>none) else z3a e M0 G k M (q+1)
 | none::M,q=>z3a e M0 G k M (q+1)
noncomputable def rd3 (M:List (Option S3)) (G:List (List PV × Nat)):Option (PX × List PV × List Row):=
 bif decide (j<len) then bif decide (0<=j)&&decide (j<(ws.length:Int)) then bif emB (wL (ws.getD j.toNat .any)) then nx3 f ws len j (D,M++[none],G++[([iv (wI (ws.getD j.toNat .any))],1)]) else
  bif stB (wL (ws.getD j.toNat .any)) then bif clB D (ptX (wL (ws.getD j.toNat .any)) 0) (ptY (wL (ws.getD j.toNat .any)) 0) (wLv (ws.getD j.toNat .any)) then
  z3a D f ws len j (ws.getD j.toNat .any) M G (z3b D (ws.getD j.toNat .any) (nx3 f ws len j (clE D (ws.getD j.toNat .any),M++[some (rt3 D (ws.getD j.toNat .any))],G++[([iv (wI (ws.getD j.toNat .any))],1)])) M) M 0
 else none else none else none else some (.exit 2,tm 107 [(2,grpV G)],H2 D (apv3 M) G)
noncomputable abbrev rq3 (M:List (Option S3)) (G:List (List PV × Nat)):Option (PX × List PV × List Row):=rdZ (S2 f ws G len j) (H2 D (apv3 M) G)
theorem qZ:rq3 D f ws len j [] []=rd3 D f ws len j [] []:=by kernel_rfl
theorem qZ1 (s0:S3) (g0:List PV × Nat):rq3 D f ws len j [some s0] [g0]=rd3 D f ws len j [some s0] [g0]:=by kernel_rfl
theorem qZ0 (g0:List PV × Nat):rq3 D f ws len j [none] [g0]=rd3 D f ws len j [none] [g0]:=by kernel_rfl
theorem qZ11 (s0 s1:S3) (g0 g1:List PV × Nat):rq3 D f ws len j [some s0,some s1] [g0,g1]=rd3 D f ws len j [some s0,some s1] [g0,g1]:=by kernel_rfl
theorem qZ10 (s0:S3) (g0 g1:List PV × Nat):rq3 D f ws len j [some s0,none] [g0,g1]=rd3 D f ws len j [some s0,none] [g0,g1]:=by kernel_rfl
theorem qZ01 (s1:S3) (g0 g1:List PV × Nat):rq3 D f ws len j [none,some s1] [g0,g1]=rd3 D f ws len j [none,some s1] [g0,g1]:=by kernel_rfl
theorem qZ00 (g0 g1:List PV × Nat):rq3 D f ws len j [none,none] [g0,g1]=rd3 D f ws len j [none,none] [g0,g1]:=by kernel_rfl
theorem qZ111 (s0 s1 s2:S3) (g0 g1 g2:List PV × Nat):rq3 D f ws len j [some s0,some s1,some s2] [g0,g1,g2]=rd3 D f ws len j [some s0,some s1,some s2] [g0,g1,g2]:=by kernel_rfl
theorem qZ110 (s0 s1:S3) (g0 g1 g2:List PV × Nat):rq3 D f ws len j [some s0,some s1,none] [g0,g1,g2]=rd3 D f ws len j [some s0,some s1,none] [g0,g1,g2]:=by kernel_rfl
theorem qZ101 (s0 s2:S3) (g0 g1 g2:List PV × Nat):rq3 D f ws len j [some s0,none,some s2] [g0,g1,g2]=rd3 D f ws len j [some s0,none,some s2] [g0,g1,g2]:=by kernel_rfl
theorem qZ100 (s0:S3) (g0 g1 g2:List PV × Nat):rq3 D f ws len j [some s0,none,none] [g0,g1,g2]=rd3 D f ws len j [some s0,none,none] [g0,g1,g2]:=by kernel_rfl
theorem qZ011 (s1 s2:S3) (g0 g1 g2:List PV × Nat):rq3 D f ws len j [none,some s1,some s2] [g0,g1,g2]=rd3 D f ws len j [none,some s1,some s2] [g0,g1,g2]:=by kernel_rfl
theorem qZ010 (s1:S3) (g0 g1 g2:List PV × Nat):rq3 D f ws len j [none,some s1,none] [g0,g1,g2]=rd3 D f ws len j [none,some s1,none] [g0,g1,g2]:=by kernel_rfl
theorem qZ001 (s2:S3) (g0 g1 g2:List PV × Nat):rq3 D f ws len j [none,none,some s2] [g0,g1,g2]=rd3 D f ws len j [none,none,some s2] [g0,g1,g2]:=by kernel_rfl
theorem qZ000 (g0 g1 g2:List PV × Nat):rq3 D f ws len j [none,none,none] [g0,g1,g2]=rd3 D f ws len j [none,none,none] [g0,g1,g2]:=by kernel_rfl
theorem qZ1111 (s0 s1 s2 s3:S3) (g0 g1 g2 g3:List PV × Nat):rq3 D f ws len j [some s0,some s1,some s2,some s3] [g0,g1,g2,g3]=rd3 D f ws len j [some s0,some s1,some s2,some s3] [g0,g1,g2,g3]:=by kernel_rfl
theorem qZ1110 (s0 s1 s2:S3) (g0 g1 g2 g3:List PV × Nat):rq3 D f ws len j [some s0,some s1,some s2,none] [g0,g1,g2,g3]=rd3 D f ws len j [some s0,some s1,some s2,none] [g0,g1,g2,g3]:=by kernel_rfl
theorem qZ1101 (s0 s1 s3:S3) (g0 g1 g2 g3:List PV × Nat):rq3 D f ws len j [some s0,some s1,none,some s3] [g0,g1,g2,g3]=rd3 D f ws len j [some s0,some s1,none,some s3] [g0,g1,g2,g3]:=by kernel_rfl
theorem qZ1100 (s0 s1:S3) (g0 g1 g2 g3:List PV × Nat):rq3 D f ws len j [some s0,some s1,none,none] [g0,g1,g2,g3]=rd3 D f ws len j [some s0,some s1,none,none] [g0,g1,g2,g3]:=by kernel_rfl
theorem qZ1011 (s0 s2 s3:S3) (g0 g1 g2 g3:List PV × Nat):rq3 D f ws len j [some s0,none,some s2,some s3] [g0,g1,g2,g3]=rd3 D f ws len j [some s0,none,some s2,some s3] [g0,g1,g2,g3]:=by kernel_rfl
theorem qZ1010 (s0 s2:S3) (g0 g1 g2 g3:List PV × Nat):rq3 D f ws len j [some s0,none,some s2,none] [g0,g1,g2,g3]=rd3 D f ws len j [some s0,none,some s2,none] [g0,g1,g2,g3]:=by kernel_rfl
theorem qZ1001 (s0 s3:S3) (g0 g1 g2 g3:List PV × Nat):rq3 D f ws len j [some s0,none,none,some s3] [g0,g1,g2,g3]=rd3 D f ws len j [some s0,none,none,some s3] [g0,g1,g2,g3]:=by kernel_rfl
theorem qZ1000 (s0:S3) (g0 g1 g2 g3:List PV × Nat):rq3 D f ws len j [some s0,none,none,none] [g0,g1,g2,g3]=rd3 D f ws len j [some s0,none,none,none] [g0,g1,g2,g3]:=by kernel_rfl
theorem qZ0111 (s1 s2 s3:S3) (g0 g1 g2 g3:List PV × Nat):rq3 D f ws len j [none,some s1,some s2,some s3] [g0,g1,g2,g3]=rd3 D f ws len j [none,some s1,some s2,some s3] [g0,g1,g2,g3]:=by kernel_rfl
theorem qZ0110 (s1 s2:S3) (g0 g1 g2 g3:List PV × Nat):rq3 D f ws len j [none,some s1,some s2,none] [g0,g1,g2,g3]=rd3 D f ws len j [none,some s1,some s2,none] [g0,g1,g2,g3]:=by kernel_rfl
theorem qZ0101 (s1 s3:S3) (g0 g1 g2 g3:List PV × Nat):rq3 D f ws len j [none,some s1,none,some s3] [g0,g1,g2,g3]=rd3 D f ws len j [none,some s1,none,some s3] [g0,g1,g2,g3]:=by kernel_rfl
theorem qZ0100 (s1:S3) (g0 g1 g2 g3:List PV × Nat):rq3 D f ws len j [none,some s1,none,none] [g0,g1,g2,g3]=rd3 D f ws len j [none,some s1,none,none] [g0,g1,g2,g3]:=by kernel_rfl
theorem qZ0011 (s2 s3:S3) (g0 g1 g2 g3:List PV × Nat):rq3 D f ws len j [none,none,some s2,some s3] [g0,g1,g2,g3]=rd3 D f ws len j [none,none,some s2,some s3] [g0,g1,g2,g3]:=by kernel_rfl
theorem qZ0010 (s2:S3) (g0 g1 g2 g3:List PV × Nat):rq3 D f ws len j [none,none,some s2,none] [g0,g1,g2,g3]=rd3 D f ws len j [none,none,some s2,none] [g0,g1,g2,g3]:=by kernel_rfl
theorem qZ0001 (s3:S3) (g0 g1 g2 g3:List PV × Nat):rq3 D f ws len j [none,none,none,some s3] [g0,g1,g2,g3]=rd3 D f ws len j [none,none,none,some s3] [g0,g1,g2,g3]:=by kernel_rfl
theorem qZ0000 (g0 g1 g2 g3:List PV × Nat):rq3 D f ws len j [none,none,none,none] [g0,g1,g2,g3]=rd3 D f ws len j [none,none,none,none] [g0,g1,g2,g3]:=by kernel_rfl
end
end Go.Hn
/- Network: Groups of any ways: a round of the second loop as one plain step (printed by genzb.py). -/
namespace Go.Hn
open Go.Hx Go.Hg Go.Proofs
theorem z3b_eq {D:List (PV × PV)} {e:PV} {k:Option (PX × List PV × List Row)}:∀ (M:List (Option S3)) (q:Nat),find3 (rtE D e) M q=none->z3b D e k M=k
 | [],_,_=>rfl
 | some s::M,q,h=>by
  unfold find3 at h
  unfold z3b
  cases hk:keq (rtE D e) (sv s) with
  | true=>rw[hk] at h; cases h
  | false=>rw[hk] at h; exact z3b_eq M (q+1) h
 | none::M,q,h=>z3b_eq M (q+1) h
theorem z3a_eq {D:List (PV × PV)} {f:Bool} {ws:List PV} {len j:Int} {e:PV} {M0:List (Option S3)} {G:List (List PV × Nat)} {k:Option (PX × List PV × List Row)}:∀ (M:List (Option S3)) (q:Nat),
  z3a D f ws len j e M0 G k M q=match find3 (rtE D e) M q with | some q=>(match G[q]? with | some g=>ap1 g.1 g.2 (nx3 f ws len j (clE D e,M0,G.set q (g.1++[iv (wI e)],g.2+1))) | none=>none) | none=>k
 | [],_=>rfl
 | some s::M,q=>by
  unfold find3 z3a
  cases hk:keq (rtE D e) (sv s) with
  | true=>rfl
  | false=>exact z3a_eq M (q+1)
 | none::M,q=>z3a_eq M (q+1)
theorem rd3_eq {D:List (PV × PV)} {f:Bool} {ws:List PV} {len j:Int} {r:R3} (hj0:0<=j) (hj1:j<len) (hl:len=(ws.length:Int)) {M:List (Option S3)} {G:List (List PV × Nat)} (h:step3 D M G (ws.getD j.toNat .any)=some r):
  rd3 D f ws len j M G=nx3 f ws len j r:=by
 have hj:decide (j<len)=true:=decide_eq_true hj1
 have hjj:(decide (0<=j)&&decide (j<(ws.length:Int)))=true:=by rw[<- hl,hj,decide_eq_true hj0]; rfl
 unfold rd3
 rw[hj,hjj]
 generalize ws.getD j.toNat .any=e at h ⊢
 unfold step3 okE at h
 cases hem:emB (wL e) with
 | true=>rw[hem] at h; cases h; rfl
 | false =>
 rw[hem] at h
 cases hs1:stB (wL e) with
 | false=>rw[hs1] at h; cases h
 | true =>
 cases hs2:clB D (ptX (wL e) 0) (ptY (wL e) 0) (wLv e) with
 | false=>rw[hs1,hs2] at h; cases h
 | true =>
 rw[hs1,hs2] at h
 simp only[cond_true,cond_false,Bool.and_self] at h ⊢
 rw[z3a_eq]
 cases hf:find3 (rtE D e) M 0 with
 | none=>rw[hf] at h; cases h; exact z3b_eq M 0 hf
 | some q =>
  rw[hf] at h
  dsimp only at h ⊢
  cases hg:G[q]? with
  | none=>rw[hg] at h; cases h
  | some g =>
   rw[hg] at h
   dsimp only at h ⊢
   unfold ap1
   cases hgr:gr g.1 g.2 with
   | false=>rw[hgr] at h; cases h
   | true=>rw[hgr] at h; cases h; rfl
theorem rndz3 {D:List (PV × PV)} {f:Bool} {ws:List PV} {len j:Int} {r:R3} (hj0:0<=j) (hj1:j<len) (hl:len=(ws.length:Int)):∀ (M:List (Option S3)) (G:List (List PV × Nat)),M.length=G.length/\M.length<=4->step3 D M G (ws.getD j.toNat .any)=some r ->
  rdZ (S2 f ws G len j) (H2 D (apv3 M) G)=some (.normal,S2 f ws r.2.2 len (W (j+1)),H2 r.1 (apv3 r.2.1) r.2.2):=by
 intro M G hm h
 have e:=rd3_eq (f:=f) hj0 hj1 hl h
 match M,G,hm with
 | [],[],_=>exact (qZ ..).trans e
 | [some _],[_],_=>exact (qZ1 ..).trans e
 | [none],[_],_=>exact (qZ0 ..).trans e
 | [some _,some _],[_,_],_=>exact (qZ11 ..).trans e
 | [some _,none],[_,_],_=>exact (qZ10 ..).trans e
 | [none,some _],[_,_],_=>exact (qZ01 ..).trans e
 | [none,none],[_,_],_=>exact (qZ00 ..).trans e
 | [some _,some _,some _],[_,_,_],_=>exact (qZ111 ..).trans e
 | [some _,some _,none],[_,_,_],_=>exact (qZ110 ..).trans e
 | [some _,none,some _],[_,_,_],_=>exact (qZ101 ..).trans e
 | [some _,none,none],[_,_,_],_=>exact (qZ100 ..).trans e
 | [none,some _,some _],[_,_,_],_=>exact (qZ011 ..).trans e
 | [none,some _,none],[_,_,_],_=>exact (qZ010 ..).trans e
 | [none,none,some _],[_,_,_],_=>exact (qZ001 ..).trans e
 | [none,none,none],[_,_,_],_=>exact (qZ000 ..).trans e
 | [some _,some _,some _,some _],[_,_,_,_],_=>exact (qZ1111 ..).trans e
 | [some _,some _,some _,none],[_,_,_,_],_=>exact (qZ1110 ..).trans e
 | [some _,some _,none,some _],[_,_,_,_],_=>exact (qZ1101 ..).trans e
 | [some _,some _,none,none],[_,_,_,_],_=>exact (qZ1100 ..).trans e
 | [some _,none,some _,some _],[_,_,_,_],_=>exact (qZ1011 ..).trans e
 | [some _,none,some _,none],[_,_,_,_],_=>exact (qZ1010 ..).trans e
 | [some _,none,none,some _],[_,_,_,_],_=>exact (qZ1001 ..).trans e
 | [some _,none,none,none],[_,_,_,_],_=>exact (qZ1000 ..).trans e
 | [none,some _,some _,some _],[_,_,_,_],_=>exact (qZ0111 ..).trans e
 | [none,some _,some _,none],[_,_,_,_],_=>exact (qZ0110 ..).trans e
 | [none,some _,none,some _],[_,_,_,_],_=>exact (qZ0101 ..).trans e
 | [none,some _,none,none],[_,_,_,_],_=>exact (qZ0100 ..).trans e
 | [none,none,some _,some _],[_,_,_,_],_=>exact (qZ0011 ..).trans e
 | [none,none,some _,none],[_,_,_,_],_=>exact (qZ0010 ..).trans e
 | [none,none,none,some _],[_,_,_,_],_=>exact (qZ0001 ..).trans e
 | [none,none,none,none],[_,_,_,_],_=>exact (qZ0000 ..).trans e
 | _::_::_::_::_::_,_,hm=>simp only[List.length_cons] at hm; omega
 | [],_::_,hm=>simp only[List.length_cons,List.length_nil] at hm; omega
 | [_],[],hm=>simp at hm
 | [_],_::_::_,hm=>simp only[List.length_cons,List.length_nil] at hm; omega
 | [_,_],[],hm=>simp at hm
 | [_,_],[_],hm=>simp at hm
 | [_,_],_::_::_::_,hm=>simp only[List.length_cons,List.length_nil] at hm; omega
 | [_,_,_],[],hm=>simp at hm
 | [_,_,_],[_],hm=>simp at hm
 | [_,_,_],[_,_],hm=>simp at hm
 | [_,_,_],_::_::_::_::_,hm=>simp only[List.length_cons,List.length_nil] at hm; omega
 | [_,_,_,_],[],hm=>simp at hm
 | [_,_,_,_],[_],hm=>simp at hm
 | [_,_,_,_],[_,_],hm=>simp at hm
 | [_,_,_,_],[_,_,_],hm=>simp at hm
 | [_,_,_,_],_::_::_::_::_::_,hm=>simp only[List.length_cons,List.length_nil] at hm; omega
end Go.Hn
/- Network: Groups of any ways, at most five: its loops as contracts; Groups as a plain function (printed by genz3.py). -/
namespace Go.Hn
open Go.Hx Go.Hg Go.Proofs
theorem xZ0_0 (D A:List (PV × PV)) (f:Bool) (ws:List PV):rdZ (S2 f ws [] 0 0) (H2 D A [])=some (.exit 2,tm 107 [(2,grpV [])],H2 D A []):=by kernel_rfl
theorem xZ1_0 (D A:List (PV × PV)) (f:Bool) (ws:List PV) (g0:List PV) (n0:Nat):rdZ (S2 f ws [(g0,n0)] 0 0) (H2 D A [(g0,n0)])=some (.exit 2,tm 107 [(2,grpV [(g0,n0)])],H2 D A [(g0,n0)]):=by kernel_rfl
theorem xZ2_0 (D A:List (PV × PV)) (f:Bool) (ws:List PV) (g0 g1:List PV) (n0 n1:Nat):rdZ (S2 f ws [(g0,n0),(g1,n1)] 0 0) (H2 D A [(g0,n0),(g1,n1)])=some (.exit 2,tm 107 [(2,grpV [(g0,n0),(g1,n1)])],H2 D A [(g0,n0),(g1,n1)]):=by kernel_rfl
theorem xZ3_0 (D A:List (PV × PV)) (f:Bool) (ws:List PV) (g0 g1 g2:List PV) (n0 n1 n2:Nat):rdZ (S2 f ws [(g0,n0),(g1,n1),(g2,n2)] 0 0) (H2 D A [(g0,n0),(g1,n1),(g2,n2)])=some (.exit 2,tm 107 [(2,grpV [(g0,n0),(g1,n1),(g2,n2)])],H2 D A [(g0,n0),(g1,n1),(g2,n2)]):=by kernel_rfl
theorem xZ4_0 (D A:List (PV × PV)) (f:Bool) (ws:List PV) (g0 g1 g2 g3:List PV) (n0 n1 n2 n3:Nat):rdZ (S2 f ws [(g0,n0),(g1,n1),(g2,n2),(g3,n3)] 0 0) (H2 D A [(g0,n0),(g1,n1),(g2,n2),(g3,n3)])=some (.exit 2,tm 107 [(2,grpV [(g0,n0),(g1,n1),(g2,n2),(g3,n3)])],H2 D A [(g0,n0),(g1,n1),(g2,n2),(g3,n3)]):=by kernel_rfl
theorem xZ5_0 (D A:List (PV × PV)) (f:Bool) (ws:List PV) (g0 g1 g2 g3 g4:List PV) (n0 n1 n2 n3 n4:Nat):rdZ (S2 f ws [(g0,n0),(g1,n1),(g2,n2),(g3,n3),(g4,n4)] 0 0) (H2 D A [(g0,n0),(g1,n1),(g2,n2),(g3,n3),(g4,n4)])=some (.exit 2,tm 107 [(2,grpV [(g0,n0),(g1,n1),(g2,n2),(g3,n3),(g4,n4)])],H2 D A [(g0,n0),(g1,n1),(g2,n2),(g3,n3),(g4,n4)]):=by kernel_rfl
theorem xZ0_1 (D A:List (PV × PV)) (f:Bool) (ws:List PV):rdZ (S2 f ws [] 1 1) (H2 D A [])=some (.exit 2,tm 107 [(2,grpV [])],H2 D A []):=by kernel_rfl
theorem xZ1_1 (D A:List (PV × PV)) (f:Bool) (ws:List PV) (g0:List PV) (n0:Nat):rdZ (S2 f ws [(g0,n0)] 1 1) (H2 D A [(g0,n0)])=some (.exit 2,tm 107 [(2,grpV [(g0,n0)])],H2 D A [(g0,n0)]):=by kernel_rfl
theorem xZ2_1 (D A:List (PV × PV)) (f:Bool) (ws:List PV) (g0 g1:List PV) (n0 n1:Nat):rdZ (S2 f ws [(g0,n0),(g1,n1)] 1 1) (H2 D A [(g0,n0),(g1,n1)])=some (.exit 2,tm 107 [(2,grpV [(g0,n0),(g1,n1)])],H2 D A [(g0,n0),(g1,n1)]):=by kernel_rfl
theorem xZ3_1 (D A:List (PV × PV)) (f:Bool) (ws:List PV) (g0 g1 g2:List PV) (n0 n1 n2:Nat):rdZ (S2 f ws [(g0,n0),(g1,n1),(g2,n2)] 1 1) (H2 D A [(g0,n0),(g1,n1),(g2,n2)])=some (.exit 2,tm 107 [(2,grpV [(g0,n0),(g1,n1),(g2,n2)])],H2 D A [(g0,n0),(g1,n1),(g2,n2)]):=by kernel_rfl
theorem xZ4_1 (D A:List (PV × PV)) (f:Bool) (ws:List PV) (g0 g1 g2 g3:List PV) (n0 n1 n2 n3:Nat):rdZ (S2 f ws [(g0,n0),(g1,n1),(g2,n2),(g3,n3)] 1 1) (H2 D A [(g0,n0),(g1,n1),(g2,n2),(g3,n3)])=some (.exit 2,tm 107 [(2,grpV [(g0,n0),(g1,n1),(g2,n2),(g3,n3)])],H2 D A [(g0,n0),(g1,n1),(g2,n2),(g3,n3)]):=by kernel_rfl
theorem xZ5_1 (D A:List (PV × PV)) (f:Bool) (ws:List PV) (g0 g1 g2 g3 g4:List PV) (n0 n1 n2 n3 n4:Nat):rdZ (S2 f ws [(g0,n0),(g1,n1),(g2,n2),(g3,n3),(g4,n4)] 1 1) (H2 D A [(g0,n0),(g1,n1),(g2,n2),(g3,n3),(g4,n4)])=some (.exit 2,tm 107 [(2,grpV [(g0,n0),(g1,n1),(g2,n2),(g3,n3),(g4,n4)])],H2 D A [(g0,n0),(g1,n1),(g2,n2),(g3,n3),(g4,n4)]):=by kernel_rfl
theorem xZ0_2 (D A:List (PV × PV)) (f:Bool) (ws:List PV):rdZ (S2 f ws [] 2 2) (H2 D A [])=some (.exit 2,tm 107 [(2,grpV [])],H2 D A []):=by kernel_rfl
theorem xZ1_2 (D A:List (PV × PV)) (f:Bool) (ws:List PV) (g0:List PV) (n0:Nat):rdZ (S2 f ws [(g0,n0)] 2 2) (H2 D A [(g0,n0)])=some (.exit 2,tm 107 [(2,grpV [(g0,n0)])],H2 D A [(g0,n0)]):=by kernel_rfl
theorem xZ2_2 (D A:List (PV × PV)) (f:Bool) (ws:List PV) (g0 g1:List PV) (n0 n1:Nat):rdZ (S2 f ws [(g0,n0),(g1,n1)] 2 2) (H2 D A [(g0,n0),(g1,n1)])=some (.exit 2,tm 107 [(2,grpV [(g0,n0),(g1,n1)])],H2 D A [(g0,n0),(g1,n1)]):=by kernel_rfl
theorem xZ3_2 (D A:List (PV × PV)) (f:Bool) (ws:List PV) (g0 g1 g2:List PV) (n0 n1 n2:Nat):rdZ (S2 f ws [(g0,n0),(g1,n1),(g2,n2)] 2 2) (H2 D A [(g0,n0),(g1,n1),(g2,n2)])=some (.exit 2,tm 107 [(2,grpV [(g0,n0),(g1,n1),(g2,n2)])],H2 D A [(g0,n0),(g1,n1),(g2,n2)]):=by kernel_rfl
theorem xZ4_2 (D A:List (PV × PV)) (f:Bool) (ws:List PV) (g0 g1 g2 g3:List PV) (n0 n1 n2 n3:Nat):rdZ (S2 f ws [(g0,n0),(g1,n1),(g2,n2),(g3,n3)] 2 2) (H2 D A [(g0,n0),(g1,n1),(g2,n2),(g3,n3)])=some (.exit 2,tm 107 [(2,grpV [(g0,n0),(g1,n1),(g2,n2),(g3,n3)])],H2 D A [(g0,n0),(g1,n1),(g2,n2),(g3,n3)]):=by kernel_rfl
theorem xZ5_2 (D A:List (PV × PV)) (f:Bool) (ws:List PV) (g0 g1 g2 g3 g4:List PV) (n0 n1 n2 n3 n4:Nat):rdZ (S2 f ws [(g0,n0),(g1,n1),(g2,n2),(g3,n3),(g4,n4)] 2 2) (H2 D A [(g0,n0),(g1,n1),(g2,n2),(g3,n3),(g4,n4)])=some (.exit 2,tm 107 [(2,grpV [(g0,n0),(g1,n1),(g2,n2),(g3,n3),(g4,n4)])],H2 D A [(g0,n0),(g1,n1),(g2,n2),(g3,n3),(g4,n4)]):=by kernel_rfl
theorem xZ0_3 (D A:List (PV × PV)) (f:Bool) (ws:List PV):rdZ (S2 f ws [] 3 3) (H2 D A [])=some (.exit 2,tm 107 [(2,grpV [])],H2 D A []):=by kernel_rfl
theorem xZ1_3 (D A:List (PV × PV)) (f:Bool) (ws:List PV) (g0:List PV) (n0:Nat):rdZ (S2 f ws [(g0,n0)] 3 3) (H2 D A [(g0,n0)])=some (.exit 2,tm 107 [(2,grpV [(g0,n0)])],H2 D A [(g0,n0)]):=by kernel_rfl
theorem xZ2_3 (D A:List (PV × PV)) (f:Bool) (ws:List PV) (g0 g1:List PV) (n0 n1:Nat):rdZ (S2 f ws [(g0,n0),(g1,n1)] 3 3) (H2 D A [(g0,n0),(g1,n1)])=some (.exit 2,tm 107 [(2,grpV [(g0,n0),(g1,n1)])],H2 D A [(g0,n0),(g1,n1)]):=by kernel_rfl
theorem xZ3_3 (D A:List (PV × PV)) (f:Bool) (ws:List PV) (g0 g1 g2:List PV) (n0 n1 n2:Nat):rdZ (S2 f ws [(g0,n0),(g1,n1),(g2,n2)] 3 3) (H2 D A [(g0,n0),(g1,n1),(g2,n2)])=some (.exit 2,tm 107 [(2,grpV [(g0,n0),(g1,n1),(g2,n2)])],H2 D A [(g0,n0),(g1,n1),(g2,n2)]):=by kernel_rfl
theorem xZ4_3 (D A:List (PV × PV)) (f:Bool) (ws:List PV) (g0 g1 g2 g3:List PV) (n0 n1 n2 n3:Nat):rdZ (S2 f ws [(g0,n0),(g1,n1),(g2,n2),(g3,n3)] 3 3) (H2 D A [(g0,n0),(g1,n1),(g2,n2),(g3,n3)])=some (.exit 2,tm 107 [(2,grpV [(g0,n0),(g1,n1),(g2,n2),(g3,n3)])],H2 D A [(g0,n0),(g1,n1),(g2,n2),(g3,n3)]):=by kernel_rfl
theorem xZ5_3 (D A:List (PV × PV)) (f:Bool) (ws:List PV) (g0 g1 g2 g3 g4:List PV) (n0 n1 n2 n3 n4:Nat):rdZ (S2 f ws [(g0,n0),(g1,n1),(g2,n2),(g3,n3),(g4,n4)] 3 3) (H2 D A [(g0,n0),(g1,n1),(g2,n2),(g3,n3),(g4,n4)])=some (.exit 2,tm 107 [(2,grpV [(g0,n0),(g1,n1),(g2,n2),(g3,n3),(g4,n4)])],H2 D A [(g0,n0),(g1,n1),(g2,n2),(g3,n3),(g4,n4)]):=by kernel_rfl
theorem xZ0_4 (D A:List (PV × PV)) (f:Bool) (ws:List PV):rdZ (S2 f ws [] 4 4) (H2 D A [])=some (.exit 2,tm 107 [(2,grpV [])],H2 D A []):=by kernel_rfl
theorem xZ1_4 (D A:List (PV × PV)) (f:Bool) (ws:List PV) (g0:List PV) (n0:Nat):rdZ (S2 f ws [(g0,n0)] 4 4) (H2 D A [(g0,n0)])=some (.exit 2,tm 107 [(2,grpV [(g0,n0)])],H2 D A [(g0,n0)]):=by kernel_rfl
theorem xZ2_4 (D A:List (PV × PV)) (f:Bool) (ws:List PV) (g0 g1:List PV) (n0 n1:Nat):rdZ (S2 f ws [(g0,n0),(g1,n1)] 4 4) (H2 D A [(g0,n0),(g1,n1)])=some (.exit 2,tm 107 [(2,grpV [(g0,n0),(g1,n1)])],H2 D A [(g0,n0),(g1,n1)]):=by kernel_rfl
theorem xZ3_4 (D A:List (PV × PV)) (f:Bool) (ws:List PV) (g0 g1 g2:List PV) (n0 n1 n2:Nat):rdZ (S2 f ws [(g0,n0),(g1,n1),(g2,n2)] 4 4) (H2 D A [(g0,n0),(g1,n1),(g2,n2)])=some (.exit 2,tm 107 [(2,grpV [(g0,n0),(g1,n1),(g2,n2)])],H2 D A [(g0,n0),(g1,n1),(g2,n2)]):=by kernel_rfl
theorem xZ4_4 (D A:List (PV × PV)) (f:Bool) (ws:List PV) (g0 g1 g2 g3:List PV) (n0 n1 n2 n3:Nat):rdZ (S2 f ws [(g0,n0),(g1,n1),(g2,n2),(g3,n3)] 4 4) (H2 D A [(g0,n0),(g1,n1),(g2,n2),(g3,n3)])=some (.exit 2,tm 107 [(2,grpV [(g0,n0),(g1,n1),(g2,n2),(g3,n3)])],H2 D A [(g0,n0),(g1,n1),(g2,n2),(g3,n3)]):=by kernel_rfl
theorem xZ5_4 (D A:List (PV × PV)) (f:Bool) (ws:List PV) (g0 g1 g2 g3 g4:List PV) (n0 n1 n2 n3 n4:Nat):rdZ (S2 f ws [(g0,n0),(g1,n1),(g2,n2),(g3,n3),(g4,n4)] 4 4) (H2 D A [(g0,n0),(g1,n1),(g2,n2),(g3,n3),(g4,n4)])=some (.exit 2,tm 107 [(2,grpV [(g0,n0),(g1,n1),(g2,n2),(g3,n3),(g4,n4)])],H2 D A [(g0,n0),(g1,n1),(g2,n2),(g3,n3),(g4,n4)]):=by kernel_rfl
theorem xZ0_5 (D A:List (PV × PV)) (f:Bool) (ws:List PV):rdZ (S2 f ws [] 5 5) (H2 D A [])=some (.exit 2,tm 107 [(2,grpV [])],H2 D A []):=by kernel_rfl
theorem xZ1_5 (D A:List (PV × PV)) (f:Bool) (ws:List PV) (g0:List PV) (n0:Nat):rdZ (S2 f ws [(g0,n0)] 5 5) (H2 D A [(g0,n0)])=some (.exit 2,tm 107 [(2,grpV [(g0,n0)])],H2 D A [(g0,n0)]):=by kernel_rfl
theorem xZ2_5 (D A:List (PV × PV)) (f:Bool) (ws:List PV) (g0 g1:List PV) (n0 n1:Nat):rdZ (S2 f ws [(g0,n0),(g1,n1)] 5 5) (H2 D A [(g0,n0),(g1,n1)])=some (.exit 2,tm 107 [(2,grpV [(g0,n0),(g1,n1)])],H2 D A [(g0,n0),(g1,n1)]):=by kernel_rfl
theorem xZ3_5 (D A:List (PV × PV)) (f:Bool) (ws:List PV) (g0 g1 g2:List PV) (n0 n1 n2:Nat):rdZ (S2 f ws [(g0,n0),(g1,n1),(g2,n2)] 5 5) (H2 D A [(g0,n0),(g1,n1),(g2,n2)])=some (.exit 2,tm 107 [(2,grpV [(g0,n0),(g1,n1),(g2,n2)])],H2 D A [(g0,n0),(g1,n1),(g2,n2)]):=by kernel_rfl
theorem xZ4_5 (D A:List (PV × PV)) (f:Bool) (ws:List PV) (g0 g1 g2 g3:List PV) (n0 n1 n2 n3:Nat):rdZ (S2 f ws [(g0,n0),(g1,n1),(g2,n2),(g3,n3)] 5 5) (H2 D A [(g0,n0),(g1,n1),(g2,n2),(g3,n3)])=some (.exit 2,tm 107 [(2,grpV [(g0,n0),(g1,n1),(g2,n2),(g3,n3)])],H2 D A [(g0,n0),(g1,n1),(g2,n2),(g3,n3)]):=by kernel_rfl
theorem xZ5_5 (D A:List (PV × PV)) (f:Bool) (ws:List PV) (g0 g1 g2 g3 g4:List PV) (n0 n1 n2 n3 n4:Nat):rdZ (S2 f ws [(g0,n0),(g1,n1),(g2,n2),(g3,n3),(g4,n4)] 5 5) (H2 D A [(g0,n0),(g1,n1),(g2,n2),(g3,n3),(g4,n4)])=some (.exit 2,tm 107 [(2,grpV [(g0,n0),(g1,n1),(g2,n2),(g3,n3),(g4,n4)])],H2 D A [(g0,n0),(g1,n1),(g2,n2),(g3,n3),(g4,n4)]):=by kernel_rfl
theorem xit3 {D A:List (PV × PV)} {f:Bool} {ws:List PV} (hw:ws.length<=5):∀ (G:List (List PV × Nat)),G.length<=5 ->
  rdZ (S2 f ws G (ws.length:Int) (ws.length:Int)) (H2 D A G)=some (.exit 2,tm 107 [(2,grpV G)],H2 D A G):=by
 intro G hG
 rcases (show ws.length=0\/ws.length=1\/ws.length=2\/ws.length=3\/ws.length=4\/ws.length=5 by omega) with h | h | h | h | h | h
 ·rw[h]
  match G,hG with
  | [],_=>exact xZ0_0 D A f ws
  | [(g0,n0)],_=>exact xZ1_0 D A f ws g0 n0
  | [(g0,n0),(g1,n1)],_=>exact xZ2_0 D A f ws g0 g1 n0 n1
  | [(g0,n0),(g1,n1),(g2,n2)],_=>exact xZ3_0 D A f ws g0 g1 g2 n0 n1 n2
  | [(g0,n0),(g1,n1),(g2,n2),(g3,n3)],_=>exact xZ4_0 D A f ws g0 g1 g2 g3 n0 n1 n2 n3
  | [(g0,n0),(g1,n1),(g2,n2),(g3,n3),(g4,n4)],_=>exact xZ5_0 D A f ws g0 g1 g2 g3 g4 n0 n1 n2 n3 n4
  | _::_::_::_::_::_::_,hG=>simp only[List.length_cons] at hG; omega
 ·rw[h]
  match G,hG with
  | [],_=>exact xZ0_1 D A f ws
  | [(g0,n0)],_=>exact xZ1_1 D A f ws g0 n0
  | [(g0,n0),(g1,n1)],_=>exact xZ2_1 D A f ws g0 g1 n0 n1
  | [(g0,n0),(g1,n1),(g2,n2)],_=>exact xZ3_1 D A f ws g0 g1 g2 n0 n1 n2
  | [(g0,n0),(g1,n1),(g2,n2),(g3,n3)],_=>exact xZ4_1 D A f ws g0 g1 g2 g3 n0 n1 n2 n3
  | [(g0,n0),(g1,n1),(g2,n2),(g3,n3),(g4,n4)],_=>exact xZ5_1 D A f ws g0 g1 g2 g3 g4 n0 n1 n2 n3 n4
  | _::_::_::_::_::_::_,hG=>simp only[List.length_cons] at hG; omega
 ·rw[h]
  match G,hG with
  | [],_=>exact xZ0_2 D A f ws
  | [(g0,n0)],_=>exact xZ1_2 D A f ws g0 n0
  | [(g0,n0),(g1,n1)],_=>exact xZ2_2 D A f ws g0 g1 n0 n1
  | [(g0,n0),(g1,n1),(g2,n2)],_=>exact xZ3_2 D A f ws g0 g1 g2 n0 n1 n2
  | [(g0,n0),(g1,n1),(g2,n2),(g3,n3)],_=>exact xZ4_2 D A f ws g0 g1 g2 g3 n0 n1 n2 n3
  | [(g0,n0),(g1,n1),(g2,n2),(g3,n3),(g4,n4)],_=>exact xZ5_2 D A f ws g0 g1 g2 g3 g4 n0 n1 n2 n3 n4
  | _::_::_::_::_::_::_,hG=>simp only[List.length_cons] at hG; omega
 ·rw[h]
  match G,hG with
  | [],_=>exact xZ0_3 D A f ws
  | [(g0,n0)],_=>exact xZ1_3 D A f ws g0 n0
  | [(g0,n0),(g1,n1)],_=>exact xZ2_3 D A f ws g0 g1 n0 n1
  | [(g0,n0),(g1,n1),(g2,n2)],_=>exact xZ3_3 D A f ws g0 g1 g2 n0 n1 n2
  | [(g0,n0),(g1,n1),(g2,n2),(g3,n3)],_=>exact xZ4_3 D A f ws g0 g1 g2 g3 n0 n1 n2 n3
  | [(g0,n0),(g1,n1),(g2,n2),(g3,n3),(g4,n4)],_=>exact xZ5_3 D A f ws g0 g1 g2 g3 g4 n0 n1 n2 n3 n4
  | _::_::_::_::_::_::_,hG=>simp only[List.length_cons] at hG; omega
 ·rw[h]
  match G,hG with
  | [],_=>exact xZ0_4 D A f ws
  | [(g0,n0)],_=>exact xZ1_4 D A f ws g0 n0
  | [(g0,n0),(g1,n1)],_=>exact xZ2_4 D A f ws g0 g1 n0 n1
  | [(g0,n0),(g1,n1),(g2,n2)],_=>exact xZ3_4 D A f ws g0 g1 g2 n0 n1 n2
  | [(g0,n0),(g1,n1),(g2,n2),(g3,n3)],_=>exact xZ4_4 D A f ws g0 g1 g2 g3 n0 n1 n2 n3
  | [(g0,n0),(g1,n1),(g2,n2),(g3,n3),(g4,n4)],_=>exact xZ5_4 D A f ws g0 g1 g2 g3 g4 n0 n1 n2 n3 n4
  | _::_::_::_::_::_::_,hG=>simp only[List.length_cons] at hG; omega
 ·rw[h]
  match G,hG with
  | [],_=>exact xZ0_5 D A f ws
  | [(g0,n0)],_=>exact xZ1_5 D A f ws g0 n0
  | [(g0,n0),(g1,n1)],_=>exact xZ2_5 D A f ws g0 g1 n0 n1
  | [(g0,n0),(g1,n1),(g2,n2)],_=>exact xZ3_5 D A f ws g0 g1 g2 n0 n1 n2
  | [(g0,n0),(g1,n1),(g2,n2),(g3,n3)],_=>exact xZ4_5 D A f ws g0 g1 g2 g3 n0 n1 n2 n3
  | [(g0,n0),(g1,n1),(g2,n2),(g3,n3),(g4,n4)],_=>exact xZ5_5 D A f ws g0 g1 g2 g3 g4 n0 n1 n2 n3 n4
  | _::_::_::_::_::_::_,hG=>simp only[List.length_cons] at hG; omega
def grp3:List PV->List (PV × PV)->List (Option S3)->List (List PV × Nat)->Option R3
 | [],D,M,G=>some (D,M,G)
 | e::es,D,M,G=>(step3 D M G e).bind fun r=>grp3 es r.1 r.2.1 r.2.2
theorem step3_len {D:List (PV × PV)} {M:List (Option S3)} {G:List (List PV × Nat)} {e:PV} {r:R3} (hl:M.length=G.length) (h:step3 D M G e=some r):r.2.1.length=r.2.2.length/\r.2.1.length<=M.length+1:=by
 unfold step3 at h
 cases hem:emB (wL e) with
 | true=>rw[hem] at h; cases h; simp only[List.length_append,List.length_cons,List.length_nil]; omega
 | false =>
  rw[hem,cond_false] at h
  cases ho:okE D e with
  | false=>rw[ho] at h; cases h
  | true =>
   rw[ho,cond_true] at h
   split at h
   ·rename_i q hq
    split at h
    ·rename_i g hg
     cases hgr:gr g.1 g.2 with
     | false=>rw[hgr] at h; cases h
     | true=>rw[hgr] at h; cases h; simp only[List.length_set]; omega
    ·cases h
   ·cases h; simp only[List.length_append,List.length_cons,List.length_nil]; omega
theorem all3 {f:Bool} {ws:List PV} (hw:ws.length<=5) (hsub:SubCode Tryz.prog 18 (Ao Tryz.f18 12)) {R:R3}:∀ (k j:Nat) (D:List (PV × PV)) (M:List (Option S3)) (G:List (List PV × Nat)),j+k=ws.length->M.length=G.length->M.length<=j ->
  grp3 (ws.drop j) D M G=some R ->
  RndsG Tryz.prog (Ao Tryz.f18 12) 3 (.exit 2) (tm 107 [(2,grpV R.2.2)]) (H2 R.1 (apv3 R.2.1) R.2.2) (S2 f ws G (ws.length:Int) (j:Int)) (H2 D (apv3 M) G)
 | 0,j,D,M,G,hk,hl,hA,h=>by
  rw[List.drop_of_length_le (by omega)] at h
  cases h
  have hj:j=ws.length:=by omega
  subst hj
  exact runG_stop okM4 hsub (by simp) (xit3 hw G (by omega))
 | k+1,j,D,M,G,hk,hl,hA,h=>by
  have hj:j<ws.length:=by omega
  rw[List.drop_eq_getElem_cons hj] at h
  unfold grp3 at h
  obtain ⟨r,hr,h2⟩:=Option.bind_eq_some_iff.1 h
  obtain ⟨l1,l3⟩:=step3_len hl hr
  have hg:ws.getD (j:Int).toNat .any=ws[j]:=by rw[List.getD_eq_getElem?_getD,Int.toNat_natCast,List.getElem?_eq_getElem hj]; rfl
  have h1:=rndz3 (D:=D) (f:=f) (ws:=ws) (len:=(ws.length:Int)) (j:=(j:Int)) (r:=r) (by omega) (by omega) rfl M G ⟨hl,by omega⟩ (by rw[hg]; exact hr)
  refine runG_go okM4 hsub h1 ?_
  have:=all3 (f:=f) hw hsub k (j+1) r.1 r.2.1 r.2.2 (by omega) l1 (by omega) h2
  rw[W_id (by omega) (by omega)]
  exact this
noncomputable def rdV (S:List PV) (H:List Row):Option (PX × List PV × List Row):=runG Tryz.prog M4 80 18 (Ao Tryz.f18 4) 2 [0,2,4,5,24,25,26] [0,2,5] (fun _ _=>[0,1]) S H
theorem qU3 (D:List (PV × PV)) (f0:Bool) (ws0:List PV) (f:Bool) (ws:List PV) (len j:Int):rdV (S1 f0 ws0 f ws len j) [mrow D,sboxR] =
 bif decide (j<len) then bif decide (0<=j)&&decide (j<(ws.length:Int)) then bif emB (wL (ws.getD j.toNat .any)) then some (.normal,S1 f0 ws0 f ws len (W (j+1)),[mrow D,sboxR]) else bif stB (wL (ws.getD j.toNat .any)) then
  bif clB D (fX (ws.getD j.toNat .any)) (fY (ws.getD j.toNat .any)) (wLv (ws.getD j.toNat .any))&&clB (clD D (fX (ws.getD j.toNat .any)) (fY (ws.getD j.toNat .any)) (wLv (ws.getD j.toNat .any))) (lX (ws.getD j.toNat .any)) (lY (ws.getD j.toNat .any)) (wLv (ws.getD j.toNat .any)) then
   some (.normal,S1 f0 ws0 f ws len (W (j+1)),[mrow (joinE D (ws.getD j.toNat .any)),sboxR]) else none else none else none
 else some (.exit 0,tm 107 [(0,.Ac f0 44 ws0),(2,nilS),(5,clo 59)],[mrow D,sboxR]):=by kernel_rfl
def un3:List PV->List (PV × PV)->Option (List (PV × PV))
 | [],D=>some D
 | e::es,D=>bif emB (wL e) then un3 es D else bif okJ D e then un3 es (joinE D e) else none
theorem all13 {f0:Bool} {ws0:List PV} {f:Bool} {ws:List PV} (hw:(ws.length:Int)<=1000000) (hsub:SubCode Tryz.prog 18 (Ao Tryz.f18 4)) {D':List (PV × PV)}:∀ (k j:Nat) (D:List (PV × PV)),j+k=ws.length->un3 (ws.drop j) D=some D' ->
  RndsG Tryz.prog (Ao Tryz.f18 4) 2 (.exit 0) (tm 107 [(0,.Ac f0 44 ws0),(2,nilS),(5,clo 59)]) [mrow D',sboxR] (S1 f0 ws0 f ws (ws.length:Int) (j:Int)) [mrow D,sboxR]
 | 0,j,D,hk,h=>by
  rw[List.drop_of_length_le (by omega)] at h
  cases h
  exact runG_stop okM4 hsub (by simp) (Eq.trans (qU3 D' f0 ws0 f ws (ws.length:Int) (j:Int)) (by rw[decide_eq_false (by omega)]; rfl))
 | k+1,j,D,hk,h=>by
  have hj:j<ws.length:=by omega
  rw[List.drop_eq_getElem_cons hj] at h
  unfold un3 at h
  have hg:ws.getD (j:Int).toNat .any=ws[j]:=by rw[List.getD_eq_getElem?_getD,Int.toNat_natCast,List.getElem?_eq_getElem hj]; rfl
  cases hem:emB (wL ws[j]) with
  | true =>
   rw[hem,cond_true] at h
   have h1:rdV (S1 f0 ws0 f ws (ws.length:Int) (j:Int)) [mrow D,sboxR]=some (.normal,S1 f0 ws0 f ws (ws.length:Int) (W (j+1)),[mrow D,sboxR]):=by
    rw[qU3,hg,decide_eq_true (by omega),decide_eq_true (by omega),hem]; rfl
   refine runG_go okM4 hsub h1 ?_
   have:=all13 (f0:=f0) (ws0:=ws0) (f:=f) hw hsub k (j+1) D (by omega) h
   rw[W_id (by omega) (by omega)]
   exact this
  | false =>
   rw[hem,cond_false] at h
   cases ho:okJ D ws[j] with
   | false=>rw[ho] at h; cases h
   | true =>
    rw[ho,cond_true] at h
    have h1:rdV (S1 f0 ws0 f ws (ws.length:Int) (j:Int)) [mrow D,sboxR]=some (.normal,S1 f0 ws0 f ws (ws.length:Int) (W (j+1)),[mrow (joinE D ws[j]),sboxR]):=by
     unfold okJ at ho
     rw[Bool.and_eq_true] at ho
     rw[qU3,hg,decide_eq_true (by omega),decide_eq_true (by omega),hem,ho.1,ho.2]; rfl
    refine runG_go okM4 hsub h1 ?_
    have:=all13 (f0:=f0) (ws0:=ws0) (f:=f) hw hsub k (j+1) (joinE D ws[j]) (by omega) h
    rw[W_id (by omega) (by omega)]
    exact this
def c13:Nat->List PV->List Row->Option (DT (PX × List PV × List Row))
 | 0,S,[r0,r1] =>
  match S.getD 0 .any,S.getD 2 .any,S.getD 4 .any,S.getD 5 .any,S.getD 24 .any,S.getD 25 .any,S.getD 26 .any,rowD r0,rowS r1,tmB 107 [0,2,4,5,24,25,26] S with
  | .Ac f0 44 ws0,.val (.slice none 0 0),.fn (.func 58) [.agg [.mp 0]] [],.fn (.func 59) [.agg [.mp 0]] [],.Ac _ 44 ws,.val (.int .i64 len),.val (.int .i64 0),some D,true,true =>
   some (.br (decide (len=(ws.length:Int))&&decide ((ws.length:Int)<=1000000)&&(un3 ws D).isSome)
    (.leaf (.exit 0,tm 107 [(0,.Ac f0 44 ws0),(2,nilS),(5,clo 59)],[mrow ((un3 ws D).getD []),sboxR])) .no)
  | _,_,_,_,_,_,_,_,_,_=>none
 | _,_,_=>none
theorem o13 (hs:SubCode Tryz.prog 18 (.loop (Ao Tryz.f18 4))) (ro:Nat) (S:List PV) (H:List Row) (d:DT (PX × List PV × List Row)) (x:PX) (S':List PV) (H':List Row) (h:c13 ro S H=some d) (hr:d.run=some (x,S',H')):WpTo Tryz.prog (.loop (Ao Tryz.f18 4)) ro S H x S' H':=by
 unfold c13 at h
 split at h
 ·rename_i S r0 r1
  split at h
  ·rename_i f0 ws0 f ws len D e0 e2 e4 e5 e24 e25 e26 hD hS ht
   cases h
   obtain ⟨h1,h2⟩:=dt_br hr
   cases h2
   simp only[Bool.and_eq_true,decide_eq_true_eq] at h1
   obtain ⟨⟨rfl,h3⟩,h4⟩:=h1
   obtain ⟨D',hD'⟩:=Option.isSome_iff_exists.1 h4
   rw[hD',rowD_some hD,rowS_eq hS,tmB_eq ht]
   simp only[List.map_cons,List.map_nil,e0,e2,e4,e5,e24,e25,e26]
   exact loopG (by simp) (all13 (f0:=f0) (ws0:=ws0) (f:=f) h3 (hs.sub (.loop .here)) ws.length 0 D (by omega) hD')
  ·cases h
 ·cases h
def leaf3 (R:R3) (m:Nat):PX × List PV × List Row:=(.exit 2,tm 107 [(2,grpV (spn m R.2.2))],H2 R.1 (apv3 R.2.1) (spn m R.2.2))
def pick3 (R:R3):List Nat->DT (PX × List PV × List Row)
 | []=>.no
 | m::ms=>.br (Nat.beq R.2.2.length m) (.leaf (leaf3 R m)) (pick3 R ms)
theorem pick3_run {R:R3} {r:PX × List PV × List Row}:∀ {ms:List Nat},(pick3 R ms).run=some r->r=(.exit 2,tm 107 [(2,grpV R.2.2)],H2 R.1 (apv3 R.2.1) R.2.2)
 | [],h=>by cases h
 | m::ms,h=>by
  unfold pick3 at h
  cases hb:Nat.beq R.2.2.length m with
  | true =>
   rw[hb] at h
   have hm:=Nat.eq_of_beq_eq_true hb
   subst hm
   cases h
   unfold leaf3
   rw[spn_eq]
  | false=>rw[hb] at h; exact pick3_run (ms:=ms) h
def c23:Nat->List PV->List Row->Option (DT (PX × List PV × List Row))
 | 0,S,[r0,r1,r2] =>
  match S.getD 2 .any,S.getD 5 .any,S.getD 9 .any,S.getD 45 .any,S.getD 46 .any,S.getD 47 .any,rowD r0,rowS r1,rowA r2,tmB 107 [2,5,9,45,46,47] S with
  | .val (.slice none 0 0),.fn (.func 59) [.agg [.mp 0]] [],.mp 2,.Ac _ 44 ws,.val (.int .i64 len),.val (.int .i64 0),some D,true,some [],true =>
   some (.br (decide (len=(ws.length:Int))&&decide (ws.length<=5)&&(grp3 ws D [] []).isSome) (pick3 ((grp3 ws D [] []).getD ([],[],[])) [0,1,2,3,4,5]) .no)
  | _,_,_,_,_,_,_,_,_,_=>none
 | _,_,_=>none
theorem o23 (hs:SubCode Tryz.prog 18 (.loop (Ao Tryz.f18 12))) (ro:Nat) (S:List PV) (H:List Row) (d:DT (PX × List PV × List Row)) (x:PX) (S':List PV) (H':List Row) (h:c23 ro S H=some d) (hr:d.run=some (x,S',H')):WpTo Tryz.prog (.loop (Ao Tryz.f18 12)) ro S H x S' H':=by
 unfold c23 at h
 split at h
 ·rename_i S r0 r1 r2
  split at h
  ·rename_i f ws len D e2 e5 e9 e45 e46 e47 hD hS hA ht
   cases h
   obtain ⟨h1,h2⟩:=dt_br2 hr
   simp only[Bool.and_eq_true,decide_eq_true_eq] at h1
   obtain ⟨⟨rfl,h3⟩,h4⟩:=h1
   obtain ⟨R,hR⟩:=Option.isSome_iff_exists.1 h4
   rw[hR] at h2
   have h5:=pick3_run h2
   cases h5
   rw[rowD_some hD,rowS_eq hS,rowA_some hA,tmB_eq ht]
   simp only[List.map_cons,List.map_nil,e2,e5,e9,e45,e46,e47]
   exact loopG (by simp) (all3 (f:=f) h3 (hs.sub (.loop .here)) ws.length 0 D [] [] (by omega) rfl (Nat.zero_le _) hR)
  ·cases h
 ·cases h
noncomputable def M13:Ad:=(N13.addL2 18 4 [0,2,4,5,24,25,26] c13).addL2 18 12 [2,5,9,45,46,47] c23
theorem okM13:Ab Tryz.prog M13.env:=
 Ab.addL2 (Ab.addL2 okn13 Tryz.func18 (show Tryz.f18.body=some (bod Tryz.f18) by kernel_rfl) (show (loops (bod Tryz.f18)).filter (fun b=>rid b==4)=[Ao Tryz.f18 4] by kernel_rfl) o13)
  Tryz.func18 (show Tryz.f18.body=some (bod Tryz.f18) by kernel_rfl) (show (loops (bod Tryz.f18)).filter (fun b=>rid b==12)=[Ao Tryz.f18 12] by kernel_rfl) o23
def D3 (ws:List PV):List (PV × PV):=(un3 ws []).getD []
def G3 (ws:List PV):R3:=(grp3 ws (D3 ws) [] []).getD ([],[],[])
def grpX3 (ws:List PV):Option PV:=
 bif decide ((ws.length:Int)=(ws.length:Int))&&decide ((ws.length:Int)<=1000000)&&(un3 ws []).isSome then
  bif decide ((ws.length:Int)=(ws.length:Int))&&decide (ws.length<=5)&&(grp3 ws (D3 ws) [] []).isSome then
   bif Nat.beq (G3 ws).2.2.length 0 then some (.val (.slice none 0 0)) else
   bif Nat.beq (G3 ws).2.2.length 1 then outX (spn 1 (G3 ws).2.2) 1 else
   bif Nat.beq (G3 ws).2.2.length 2 then outX (spn 2 (G3 ws).2.2) 2 else
   bif Nat.beq (G3 ws).2.2.length 3 then outX (spn 3 (G3 ws).2.2) 3 else
   bif Nat.beq (G3 ws).2.2.length 4 then outX (spn 4 (G3 ws).2.2) 4 else
   bif Nat.beq (G3 ws).2.2.length 5 then outX (spn 5 (G3 ws).2.2) 5 else none
  else none else none
theorem qX3 (f:Bool) (ws:List PV):Ah Tryz.prog M13 200 18 [.Ac f 44 ws]=grpX3 ws:=by kernel_rfl
end Go.Hn

/- Network: Groups of any ways, at most five: plain law; Groups as a contract. -/
namespace Go.Hn
open Go.Hx Go.Hg Go.Proofs
def neB (e:PV):Bool:=!emB (wL e)
theorem un3_eq:∀ (es:List PV) (D:List (PV × PV)),un3 es D=un1 (es.filter neB) D
 | [],_=>rfl
 | e::es,D=>by
  unfold un3
  rw[List.filter_cons]
  unfold neB
  cases hem:emB (wL e) with
  | true=>exact un3_eq es D
  | false =>
   simp only[cond_false,Bool.not_false,if_true,un1]
   cases okJ D e with
   | true=>exact un3_eq es _
   | false=>rfl
abbrev Kd:=Option S3 × Int
def idsK (R:S3->S3) (W:List PV):Kd->List Int
 | (some a,_)=>idsL R W a
 | (none,x)=>[x]
def gpK (R:S3->S3) (W:List PV) (k:Kd):List PV × Nat:=(ivs (idsK R W k),(ivs (idsK R W k)).length)
def oneK (x y:Kd):Prop:=∀ a,x.1=some a->y.1 ≠ some a
def topK (K:List Kd):List S3:=K.filterMap (·.1)
def sinK (K:List Kd):List Int:=K.filterMap fun x=>match x.1 with | some _=>none | none=>some x.2
theorem topK_mem {K:List Kd} {a:S3}:a ∈ topK K ↔ ∃ x,(some a,x) ∈ K:=by
 unfold topK
 rw[List.mem_filterMap]
 constructor
 ·rintro ⟨⟨o,x⟩,h1,h2⟩
  have h2:o=some a:=h2
  subst h2
  exact ⟨x,h1⟩
 ·rintro ⟨x,h⟩; exact ⟨_,h,rfl⟩
theorem find3_sv {a:S3}:∀ (K:List Kd) (q:Nat),(∀ n,find3 (sv a) (K.map (·.1)) q=some n->∃ i x,n=q+i/\K[i]? = some (some a,x))/\(find3 (sv a) (K.map (·.1)) q=none->∀ x,(some a,x) ∉ K)
 | [],q=>⟨fun n h=>(by cases h),fun _ x h=>(by cases h)⟩
 | (none,y)::K,q=>by
  obtain ⟨h1,h2⟩:=find3_sv (a:=a) K (q+1)
  refine ⟨fun n h => ?_,fun h x hm => ?_⟩
  ·obtain ⟨i,x,e1,e2⟩:=h1 n h
   exact ⟨i+1,x,by omega,by simpa using e2⟩
  ·rcases List.mem_cons.1 hm with h3 | h3
   ·cases h3
   ·exact h2 h x h3
 | (some s,y)::K,q=>by
  rw[List.map_cons]
  show (∀ n,(bif keq (sv a) (sv s) then some q else find3 (sv a) (K.map (·.1)) (q+1))=some n->_)/\((bif keq (sv a) (sv s) then some q else find3 (sv a) (K.map (·.1)) (q+1))=none->_)
  rw[keq_sv]
  by_cases e:a=s
  ·rw[decide_eq_true e]
   exact ⟨fun n h=>(by cases h; exact ⟨0,y,rfl,by rw[e]; rfl⟩),fun h=>(by cases h)⟩
  ·rw[decide_eq_false e]
   obtain ⟨h1,h2⟩:=find3_sv (a:=a) K (q+1)
   refine ⟨fun n h => ?_,fun h x hm => ?_⟩
   ·obtain ⟨i,x,e1,e2⟩:=h1 n h
    exact ⟨i+1,x,by omega,by simpa using e2⟩
   ·rcases List.mem_cons.1 hm with h3 | h3
    ·injection h3 with h4 _
     injection h4 with h4
     exact e h4
    ·exact h2 h x h3
theorem gpK_some (R:S3->S3) (W:List PV) (a:S3) (x:Int):gpK R W (some a,x)=gp2 R W a:=rfl
theorem gpK_len (R:S3->S3) (W:List PV):∀ k:Kd,(ivs (idsK R W k)).length<=W.length+1
 | (some a,x)=>by
  have:=idsL_len R W a
  show (ivs (idsL R W a)).length<=_
  rw[List.length_map]; omega
 | (none,x)=>by show 1<=_; omega
theorem grp3_inv {n:Nat} (hn:n<=8) {R:S3->S3} {h:S3->Nat}:∀ (es done:List PV) {D:List (PV × PV)} {K:List Kd} (_:Inv D n R h),(∀ e ∈ es,emB (wL e)=true\/stB (wL e)=true)->K.Pairwise oneK->(∀ a,(∃ x,(some a,x) ∈ K) ↔ ∃ e ∈ done.filter neB,R (Ap e)=a)->sinK K=(done.filter fun e=>emB (wL e)).map wI->(done++es).length<=1000000 ->
  ∃ (D':List (PV × PV)) (K':List Kd),grp3 es D (K.map (·.1)) (K.map (gpK R (done.filter neB)))=some (D',K'.map (·.1),K'.map (gpK R ((done++es).filter neB)))/\K'.Pairwise oneK/\(∀ a,(∃ x,(some a,x) ∈ K') ↔ ∃ e ∈ (done++es).filter neB,R (Ap e)=a) /\
   sinK K'=((done++es).filter fun e=>emB (wL e)).map wI
 | [],done,D,K,i,_,hA,hm,hs,_=>⟨D,K,by rw[List.append_nil]; rfl,hA,by rw[List.append_nil]; exact hm,by rw[List.append_nil]; exact hs⟩
 | e::es,done,D,K,i,he,hA,hm,hs,hl=>by
  have happ:done++e::es=done++[e]++es:=by simp
  rw[happ] at hl ⊢
  unfold grp3 step3
  cases hem:emB (wL e) with
  | true =>
   have hn1:neB e=false:=by unfold neB; rw[hem]; rfl
   have hf:(done++[e]).filter neB=done.filter neB:=by rw[List.filter_append]; simp[hn1]
   rw[cond_true]
   have hA2:(K++[((none:Option S3),wI e)]).Pairwise oneK:=by
    rw[List.pairwise_append]
    exact ⟨hA,by simp,fun x _ y hy=>by rw[List.mem_singleton] at hy; subst hy; exact fun a _ h=>by cases h⟩
   have hm2:∀ a,(∃ x,(some a,x) ∈ K++[((none:Option S3),wI e)]) ↔ ∃ d ∈ (done++[e]).filter neB,R (Ap d)=a:=fun a=>by
    rw[hf,<- hm]
    constructor
    ·rintro ⟨x,h⟩
     rcases List.mem_append.1 h with h | h
     ·exact ⟨x,h⟩
     ·rw[List.mem_singleton] at h; cases h
    ·rintro ⟨x,h⟩; exact ⟨x,List.mem_append.2 (.inl h)⟩
   have hs2:sinK (K++[((none:Option S3),wI e)])=((done++[e]).filter fun e=>emB (wL e)).map wI:=by
    unfold sinK at hs ⊢
    rw[List.filterMap_append,hs,List.filter_append,List.map_append]
    simp[hem]
   obtain ⟨D',K',g1,g2,g3,g4⟩:=grp3_inv hn es (done++[e]) i (fun x hx=>he x (.tail _ hx)) hA2 hm2 hs2 hl
   refine ⟨D',K',?_,g2,g3,g4⟩
   rw[<- g1,hf,List.map_append,List.map_append]
   rfl
  | false =>
   have hn1:neB e=true:=by unfold neB; rw[hem]; rfl
   have hf:(done++[e]).filter neB=done.filter neB++[e]:=by rw[List.filter_append]; simp[hn1]
   have hf2:(done++[e]).filter (fun e=>emB (wL e))=done.filter (fun e=>emB (wL e)):=by rw[List.filter_append]; simp[hem]
   have hst:stB (wL e)=true:=by rcases he e (.head _) with h | h; rw[hem] at h; cases h; exact h
   obtain ⟨c1,c2,c3⟩:=cl_inv i hn (Ap e)
   have hr:rtE D e=sv (R (Ap e)):=by rw[<- c2]; rfl
   have hr3:rt3 D e=R (Ap e):=by rw[<- c2]; rfl
   have ho:okE D e=true:=by unfold okE; rw[hst]; exact c1
   obtain ⟨f1,f2⟩:=find3_sv (a:=R (Ap e)) K 0
   rw[cond_false,ho,cond_true,hr]
   cases hf3:find3 (sv (R (Ap e))) (K.map (·.1)) 0 with
   | some q =>
    obtain ⟨i',x,e1,e2⟩:=f1 q hf3
    rw[Nat.zero_add] at e1
    subst e1
    have hq:(K.map (gpK R (done.filter neB)))[q]? = some (gp2 R (done.filter neB) (R (Ap e))):=by rw[List.getElem?_map,e2]; rfl
    have hql:q<K.length:=(List.getElem?_eq_some_iff.1 e2).1
    simp only[hq]
    have hg:gr (gp2 R (done.filter neB) (R (Ap e))).1 (gp2 R (done.filter neB) (R (Ap e))).2=true:=by
     have h1:=gpL_len R (done.filter neB) (R (Ap e))
     have h2:=List.length_filter_le neB done
     simp only[List.length_append] at hl
     unfold gr gp2
     simp only[decide_true,Bool.and_true,Bool.and_eq_true,decide_eq_true_eq]
     omega
    rw[hg,cond_true]
    have hset:(K.map (gpK R (done.filter neB))).set q ((gp2 R (done.filter neB) (R (Ap e))).1++[iv (wI e)],(gp2 R (done.filter neB) (R (Ap e))).2+1)=K.map (gpK R ((done++[e]).filter neB)):=by
     rw[hf]
     apply List.ext_getElem?
     intro j
     rw[List.getElem?_set,List.getElem?_map,List.getElem?_map]
     by_cases hj:q=j
     ·subst hj
      rw[if_pos rfl,if_pos (by simpa using hql),e2]
      simp only[Option.map_some,gpK_some,gp2,gpL_app,if_true,List.length_append,List.length_cons,List.length_nil]
     ·rw[if_neg hj]
      cases hj2:K[j]? with
      | none=>rfl
      | some k =>
       obtain ⟨o,y⟩:=k
       cases o with
       | none=>rfl
       | some a =>
        have hjl:j<K.length:=(List.getElem?_eq_some_iff.1 hj2).1
        have:R (Ap e) ≠ a:=fun hx=>by
         rw[<- hx] at hj2
         have p:=List.pairwise_iff_getElem.1 hA
         rcases Nat.lt_or_gt_of_ne hj with hlt | hlt
         ·exact p q j hql hjl hlt (R (Ap e)) (by rw[(List.getElem?_eq_some_iff.1 e2).2]) (by rw[(List.getElem?_eq_some_iff.1 hj2).2])
         ·exact p j q hjl hql hlt (R (Ap e)) (by rw[(List.getElem?_eq_some_iff.1 hj2).2]) (by rw[(List.getElem?_eq_some_iff.1 e2).2])
        simp only[Option.map_some,gpK_some,gp2,gpL_app,if_neg this]
    have hm2:∀ a,(∃ x,(some a,x) ∈ K) ↔ ∃ d ∈ (done++[e]).filter neB,R (Ap d)=a:=fun a=>by
     rw[hm,hf]
     constructor
     ·rintro ⟨x,h1,h2⟩; exact ⟨x,List.mem_append.2 (.inl h1),h2⟩
     ·rintro ⟨x,h1,h2⟩
      rcases List.mem_append.1 h1 with h3 | h3
      ·exact ⟨x,h3,h2⟩
      ·rw[List.mem_singleton] at h3
       subst h3
       exact (hm a).1 ⟨_,h2 ▸ List.mem_of_getElem? e2⟩
    obtain ⟨D',K',g1,g2,g3,g4⟩:=grp3_inv hn es (done++[e]) c3 (fun x hx=>he x (.tail _ hx)) hA hm2 (by rw[hf2]; exact hs) hl
    refine ⟨D',K',?_,g2,g3,g4⟩
    rw[<- g1,<- hset]; rfl
   | none =>
    have hnot:=f2 hf3
    have hnone:∀ x ∈ done.filter neB,R (Ap x) ≠ R (Ap e):=fun x hx e1=>by
     obtain ⟨y,hy⟩:=(hm (R (Ap e))).2 ⟨x,hx,e1⟩
     exact hnot y hy
    simp only
    have hset:K.map (gpK R (done.filter neB))++[([iv (wI e)],1)]=(K++[(some (rt3 D e),0)]).map (gpK R ((done++[e]).filter neB)):=by
     rw[List.map_append,hr3,hf]
     congr 1
     ·refine List.map_congr_left fun k hk => ?_
      obtain ⟨o,y⟩:=k
      cases o with
      | none=>rfl
      | some a =>
       have:R (Ap e) ≠ a:=fun x=>hnot y (x ▸ hk)
       simp only[gpK_some,gp2,gpL_app,if_neg this]
     ·simp only[List.map_cons,List.map_nil,gpK_some,gp2,gpL_app,if_true,gpL_none hnone,List.nil_append,List.length_cons,List.length_nil]
    have hm2:∀ a,(∃ x,(some a,x) ∈ K++[(some (rt3 D e),0)]) ↔ ∃ d ∈ (done++[e]).filter neB,R (Ap d)=a:=fun a=>by
     rw[hr3,hf]
     constructor
     ·rintro ⟨x,h⟩
      rcases List.mem_append.1 h with h | h
      ·obtain ⟨d,h1,h2⟩:=(hm a).1 ⟨x,h⟩
       exact ⟨d,List.mem_append.2 (.inl h1),h2⟩
      ·rw[List.mem_singleton] at h
       injection h with h1 _
       injection h1 with h1
       exact ⟨e,by simp,h1.symm⟩
     ·rintro ⟨x,h1,h2⟩
      rcases List.mem_append.1 h1 with h3 | h3
      ·obtain ⟨y,hy⟩:=(hm a).2 ⟨x,h3,h2⟩
       exact ⟨y,List.mem_append.2 (.inl hy)⟩
      ·rw[List.mem_singleton] at h3; subst h3; exact ⟨0,List.mem_append.2 (.inr (by rw[h2]; simp))⟩
    have hA2:(K++[(some (rt3 D e),0)]).Pairwise oneK:=by
     rw[List.pairwise_append]
     refine ⟨hA,by simp,fun x hx y hy => ?_⟩
     rw[List.mem_singleton] at hy
     subst hy
     rw[hr3]
     intro a h1 h2
     injection h2 with h2
     obtain ⟨o,z⟩:=x
     have h1:o=some a:=h1
     subst h1
     exact hnot z (h2 ▸ hx)
    have hs2:sinK (K++[(some (rt3 D e),0)])=((done++[e]).filter fun e=>emB (wL e)).map wI:=by
     rw[hf2,<- hs]
     unfold sinK
     rw[List.filterMap_append]
     simp
    obtain ⟨D',K',g1,g2,g3,g4⟩:=grp3_inv hn es (done++[e]) c3 (fun x hx=>he x (.tail _ hx)) hA2 hm2 hs2 hl
    refine ⟨D',K',?_,g2,g3,g4⟩
    rw[<- g1,<- hset,List.map_append]; rfl
end Go.Hn
/- Network: Groups of any ways, at most five: what it comes to, as a contract; with that of at most six ways that have points. -/
namespace Go.Hn
open Go.Hx Go.Hg Go.Proofs
def okLn5 (L:List PV):Bool:=emB L||stB L
def okW5 (ws:List PV):Bool:=decide (ws.length<=5)&&ws.all fun e=>okLn5 (wL e)
theorem okW5_iff {ws:List PV} (h:okW5 ws=true):ws.length<=5/\∀ e ∈ ws,emB (wL e)=true\/stB (wL e)=true:=by
 unfold okW5 at h
 simp only[Bool.and_eq_true,decide_eq_true_eq,List.all_eq_true] at h
 refine ⟨h.1,fun e he => ?_⟩
 have:=h.2 e he
 unfold okLn5 at this
 rw[Bool.or_eq_true] at this
 exact this
def grpL3 (ws:List PV):List PV:=sortP (lstX (G3 ws).2.2) (G3 ws).2.2.length
theorem grp_facts3 {ws:List PV} (h:okW5 ws=true):∃ (R:S3->S3) (K:List Kd),Top (ws.filter neB) R/\K.Pairwise oneK/\(∀ a,(∃ x,(some a,x) ∈ K) ↔ ∃ e ∈ ws.filter neB,R (Ap e)=a)/\sinK K=(ws.filter fun e=>emB (wL e)).map wI /\
  (un3 ws []).isSome=true/\(grp3 ws (D3 ws) [] []).isSome=true/\(G3 ws).2.2=K.map (gpK R (ws.filter neB))/\(grpL3 ws).map eL=(srtG (K.map fun k=>srtN (idsK R (ws.filter neB) k))).map ivs:=by
 obtain ⟨h1,h2⟩:=okW5_iff h
 have hst:∀ e ∈ ws.filter neB,stB (wL e)=true:=fun e he=>by
  obtain ⟨he1,he2⟩:=List.mem_filter.1 he
  rcases h2 e he1 with h3 | h3
  ·unfold neB at he2; rw[h3] at he2; cases he2
  ·exact h3
 have hlf:=List.length_filter_le neB ws
 obtain ⟨D,R,hh,a1,a2,a3⟩:=un1_top (es:=ws.filter neB) (by omega) hst
 have hu:un3 ws []=some D:=by rw[un3_eq]; exact a1
 obtain ⟨D',K,g1,g2,g3,g4⟩:=grp3_inv (by omega) ws [] a2 h2 (K:=[]) List.Pairwise.nil (fun a=>by simp) rfl (by simp; omega)
 have hD:D3 ws=D:=by unfold D3; rw[hu]; rfl
 rw[List.nil_append] at g1 g3 g4
 have hG:(G3 ws).2.2=K.map (gpK R (ws.filter neB)):=by
  unfold G3
  rw[hD]
  show ((grp3 ws D [] (List.map (gpK R (([]:List PV).filter neB)) [])).getD ([],[],[])).2.2=_
  rw[show grp3 ws D [] (List.map (gpK R (([]:List PV).filter neB)) [])=_ from g1]
  rfl
 have hx:lstX (G3 ws).2.2=(K.map fun k=>srtN (idsK R (ws.filter neB) k)).map grE:=by
  rw[hG]
  unfold lstX
  rw[List.map_map,List.map_map]
  refine List.map_congr_left fun k _ => ?_
  show PV.agg [.Ac false 3 (((srtI (ivs (idsK R (ws.filter neB) k))).drop 0).take (ivs (idsK R (ws.filter neB) k)).length)]=_
  rw[srtI_ivs,List.drop_zero,List.take_of_length_le (by rw[List.length_map,List.length_map,(srtN_perm _).length_eq]; exact Nat.le_refl _)]
  rfl
 refine ⟨R,K,a3,g2,g3,g4,by rw[hu]; rfl,?_,hG,?_⟩
 ·rw[hD,show grp3 ws D [] []=some (D',K.map (·.1),K.map (gpK R (ws.filter neB))) from g1]; rfl
 ·unfold grpL3
  rw[hx,show (G3 ws).2.2.length=(K.map fun k=>srtN (idsK R (ws.filter neB) k)).length by rw[hG]; simp]
  exact (sortP_gr _).1
theorem ne_part:∀ ws:List PV,(ws.filter neB).length+(ws.filter fun e=>emB (wL e)).length=ws.length
 | []=>rfl
 | e::ws=>by
  have ih:=ne_part ws
  rw[List.filter_cons,List.filter_cons,List.length_cons]
  unfold neB at ih ⊢
  cases emB (wL e) with
  | true=>simp only[Bool.not_true,Bool.false_eq_true,if_false,if_true,List.length_cons]; omega
  | false=>simp only[Bool.not_false,Bool.false_eq_true,if_false,if_true,List.length_cons]; omega
theorem kd_len {ws:List PV} (h:okW5 ws=true):(G3 ws).2.2.length<=5:=by
 obtain ⟨h1,_⟩:=okW5_iff h
 obtain ⟨R,K,t,hA,hm,hs,_,_,hG,_⟩:=grp_facts3 h
 rw[hG,List.length_map]
 -- tops and single ways
 have hsum:∀ K:List Kd,K.length=(topK K).length+(sinK K).length:=by
  intro K
  induction K with
  | nil=>rfl
  | cons k K ih =>
   obtain ⟨o,x⟩:=k
   unfold topK sinK at ih ⊢
   cases o with
   | none=>simp only[List.filterMap_cons,List.length_cons]; omega
   | some a=>simp only[List.filterMap_cons,List.length_cons]; omega
 rw[hsum K,hs,List.length_map]
 have htop:(topK K).Nodup:=by
  unfold topK
  rw[List.nodup_iff_pairwise_ne,List.pairwise_filterMap]
  exact hA.imp fun {x y} hxy a h3 b h4 hab=>by
   subst hab
   exact hxy a h3 h4
 have hsub:topK K ⊆ (ws.filter neB).map fun e=>R (Ap e):=fun a ha=>by
  obtain ⟨e,e1,e2⟩:=(hm a).1 (topK_mem.1 ha)
  exact List.mem_map.2 ⟨e,e1,e2⟩
 have hle:=List.Nodup.length_le_of_subset htop hsub
 rw[List.length_map] at hle
 have hpart:=ne_part ws
 omega
theorem grpX3_eq {ws:List PV} (h:okW5 ws=true):grpX3 ws=some (bif Nat.beq (G3 ws).2.2.length 0 then .val (.slice none 0 0) else .Ac false 22 (grpL3 ws)):=by
 obtain ⟨hl,_⟩:=okW5_iff h
 have hn:=kd_len h
 obtain ⟨R,K,t,hA,hm,hs,a1,a2,a3,_⟩:=grp_facts3 h
 have hG:∀ g ∈ (G3 ws).2.2,g.1.length=g.2/\g.2<=6:=by
  rw[a3]
  intro g hg
  obtain ⟨k,_,rfl⟩:=List.mem_map.1 hg
  have h1:=gpK_len R (ws.filter neB) k
  have h2:=List.length_filter_le neB ws
  exact ⟨rfl,by show (ivs (idsK R (ws.filter neB) k)).length<=6; omega⟩
 unfold grpX3
 rw[a1,a2,decide_eq_true rfl,decide_eq_true (show (ws.length:Int)<=1000000 by omega),decide_eq_true hl]
 simp only[Bool.and_self,cond_true]
 have ho:=outX_eq hG (by omega)
 have hs:=spn_eq (G3 ws).2.2
 unfold grpL3
 generalize (G3 ws).2.2=G at *
 match G,hn with
 | [],_=>rfl
 | [_],_=>rw[show ([_]:List (List PV × Nat)).length=1 from rfl] at ho hs ⊢; show outX (spn 1 _) 1=_; rw[hs,ho]; rfl
 | [_,_],_=>rw[show ([_,_]:List (List PV × Nat)).length=2 from rfl] at ho hs ⊢; show outX (spn 2 _) 2=_; rw[hs,ho]; rfl
 | [_,_,_],_=>rw[show ([_,_,_]:List (List PV × Nat)).length=3 from rfl] at ho hs ⊢; show outX (spn 3 _) 3=_; rw[hs,ho]; rfl
 | [_,_,_,_],_=>rw[show ([_,_,_,_]:List (List PV × Nat)).length=4 from rfl] at ho hs ⊢; show outX (spn 4 _) 4=_; rw[hs,ho]; rfl
 | [_,_,_,_,_],_=>rw[show ([_,_,_,_,_]:List (List PV × Nat)).length=5 from rfl] at ho hs ⊢; show outX (spn 5 _) 5=_; rw[hs,ho]; rfl
 | _::_::_::_::_::_::_,hn=>simp only[List.length_cons] at hn; omega
theorem pGrp3 (f:Bool) {ws:List PV} (h:okW5 ws=true):Ak Tryz.prog 18 [.Ac f 44 ws] (.Ac false 22 (grpL3 ws)):=by
 have h1:=(Aa okM13 (n:=200) ((qX3 f ws).trans (grpX3_eq h))).2
 cases hb:Nat.beq (G3 ws).2.2.length 0 with
 | false=>rw[hb] at h1; exact h1
 | true =>
  rw[hb] at h1
  have h2:grpL3 ws=[]:=by
   have:=Nat.eq_of_beq_eq_true hb
   have hl:(grpL3 ws).length=0:=by unfold grpL3; rw[srtL_len0]; unfold lstX; rw[List.length_map]; exact this
   exact List.eq_nil_of_length_eq_zero hl
  rw[h2]
  exact pcall_nil h1
def okWg (ws:List PV):Bool:=okW ws||okW5 ws
def grpG (ws:List PV):List PV:=bif okW ws then grpL ws else grpL3 ws
def cGrG:List PV->Option (DT PV)
 | [.Ac _ 44 ws]=>some (.br (okWg ws) (.leaf (.Ac false 22 (grpG ws))) .no)
 | _=>none
theorem oGrG (args:List PV) (d:DT PV) (r:PV) (h:cGrG args=some d) (hr:d.run=some r):Ak Tryz.prog 18 args r:=by
 unfold cGrG at h; split at h
 ·rename_i f ws
  cases h
  obtain ⟨h1,rfl⟩:=Aq hr
  unfold okWg at h1
  unfold grpG
  cases ho:okW ws with
  | true=>exact pGrp f ho
  | false =>
   rw[ho,Bool.false_or] at h1
   exact pGrp3 f h1
 ·cases h
theorem okWg_iff {ws:List PV} (h:okWg ws=true):ws.length<=6/\∀ e ∈ ws,emB (wL e)=true\/stB (wL e)=true:=by
 unfold okWg at h
 rw[Bool.or_eq_true] at h
 rcases h with h | h
 ·obtain ⟨h1,h2⟩:=okW_iff h
  exact ⟨h1,fun e he=>.inr (h2 e he)⟩
 ·obtain ⟨h1,h2⟩:=okW5_iff h
  exact ⟨by omega,h2⟩
theorem okWg_sub {ws l:List PV} (h:okWg ws=true) (hl:l.length<=ws.length) (hm:∀ e ∈ l,∃ d ∈ ws,wL e=wL d):okWg l=true:=by
 unfold okWg at h ⊢
 rw[Bool.or_eq_true] at h ⊢
 rcases h with h | h
 ·left
  obtain ⟨h1,h2⟩:=okW_iff h
  unfold okW
  simp only[Bool.and_eq_true,decide_eq_true_eq,List.all_eq_true]
  refine ⟨by omega,fun e he => ?_⟩
  obtain ⟨d,hd,hx⟩:=hm e he
  rw[hx]
  exact h2 d hd
 ·right
  unfold okW5 at h ⊢
  simp only[Bool.and_eq_true,decide_eq_true_eq,List.all_eq_true] at h ⊢
  refine ⟨by omega,fun e he => ?_⟩
  obtain ⟨d,hd,hx⟩:=hm e he
  rw[hx]
  exact h.2 d hd
theorem okG_ofG {ws:List PV} (h:okWg ws=true):okG (grpG ws)=true:=by
 unfold grpG
 cases ho:okW ws with
 | true=>exact okG_of ho
 | false =>
  unfold okWg at h
  rw[ho,Bool.false_or] at h
  have hn:=kd_len h
  obtain ⟨h5,_⟩:=okW5_iff h
  obtain ⟨R,K,_,_,_,_,_,_,hG,hg⟩:=grp_facts3 h
  have hlen:(grpL3 ws).length=(G3 ws).2.2.length:=by unfold grpL3; rw[srtL_len0]; unfold lstX; rw[List.length_map]
  unfold okG bigN
  rw[Bool.and_eq_true,List.all_eq_true]
  refine ⟨decide_eq_true (by show (grpL3 ws).length<=_; omega),fun e he=>decide_eq_true ?_⟩
  have hm:eL e ∈ (grpL3 ws).map eL:=List.mem_map_of_mem he
  rw[hg] at hm
  obtain ⟨l,hl,hx⟩:=List.mem_map.1 hm
  have hl2:=(sortP_gr (K.map fun k=>srtN (idsK R (ws.filter neB) k))).2.1.mem_iff.1 hl
  obtain ⟨k,_,rfl⟩:=List.mem_map.1 hl2
  rw[<- hx,List.length_map,(srtN_perm _).length_eq]
  have:=gpK_len R (ws.filter neB) k
  rw[List.length_map] at this
  have h2:=List.length_filter_le neB ws
  omega
end Go.Hn
/- Thin: ways are numbered; each way's group, as a map (printed by gentc.py). -/
namespace Go.Hn
open Go.Hx Go.Hg Go.Proofs
def nbE (i:Int) (e:PV):PV:=.agg [iv i,.Ac false 37 (wL e),iv (wLv e),.val (.string ((e.cellAt 3).getS)),.val (.string ((e.cellAt 4).getS)),bv ((e.cellAt 5).getB),iv ((e.cellAt 6).getI),iv ((e.cellAt 7).getI)]
def nuW:Int->List PV->List PV
 | _,[]=>[]
 | k,e::es=>nbE k e::nuW (k+1) es
theorem nuW_len:∀ (es:List PV) (k:Int),(nuW k es).length=es.length
 | [],_=>rfl
 | e::es,k=>by rw[nuW,List.length_cons,nuW_len es,List.length_cons]
theorem qe0 (f:Bool):Ah Tryz.prog {} 60 78 [.Ac f 44 [],.fn (.func 160) [] []]=some (.val (.slice none 0 0)):=by kernel_rfl
theorem qe1 (f:Bool) (a:PV):Ah Tryz.prog {} 60 78 [.Ac f 44 [a],.fn (.func 160) [] []]=some (.Ac false 44 [nbE 0 a]):=by kernel_rfl
theorem qe2 (f:Bool) (a b:PV):Ah Tryz.prog {} 60 78 [.Ac f 44 [a,b],.fn (.func 160) [] []]=some (.Ac false 44 [nbE 0 a,nbE 1 b]):=by kernel_rfl
theorem qe3 (f:Bool) (a b c:PV):Ah Tryz.prog {} 60 78 [.Ac f 44 [a,b,c],.fn (.func 160) [] []]=some (.Ac false 44 [nbE 0 a,nbE 1 b,nbE 2 c]):=by kernel_rfl
theorem qe4 (f:Bool) (a b c d:PV):Ah Tryz.prog {} 60 78 [.Ac f 44 [a,b,c,d],.fn (.func 160) [] []]=some (.Ac false 44 [nbE 0 a,nbE 1 b,nbE 2 c,nbE 3 d]):=by kernel_rfl
theorem qe5 (f:Bool) (a b c d e:PV):Ah Tryz.prog {} 60 78 [.Ac f 44 [a,b,c,d,e],.fn (.func 160) [] []]=some (.Ac false 44 [nbE 0 a,nbE 1 b,nbE 2 c,nbE 3 d,nbE 4 e]):=by kernel_rfl
theorem qe6 (f:Bool) (a b c d e g:PV):Ah Tryz.prog {} 60 78 [.Ac f 44 [a,b,c,d,e,g],.fn (.func 160) [] []]=some (.Ac false 44 [nbE 0 a,nbE 1 b,nbE 2 c,nbE 3 d,nbE 4 e,nbE 5 g]):=by kernel_rfl
theorem eEa:Hx.Enters Tryz.prog 78:=(Aa Af (qe0 true)).1
theorem qEa (f:Bool) (es:List PV) (h:es.length<=6):Ak Tryz.prog 78 [.Ac f 44 es,.fn (.func 160) [] []] (.Ac false 44 (nuW 0 es)):=by
 match es,h with
 | [],_=>exact pcall_nil (Aa Af (qe0 f)).2
 | [a],_=>exact (Aa Af (qe1 f a)).2
 | [a,b],_=>exact (Aa Af (qe2 f a b)).2
 | [a,b,c],_=>exact (Aa Af (qe3 f a b c)).2
 | [a,b,c,d],_=>exact (Aa Af (qe4 f a b c d)).2
 | [a,b,c,d,e],_=>exact (Aa Af (qe5 f a b c d e)).2
 | [a,b,c,d,e,g],_=>exact (Aa Af (qe6 f a b c d e g)).2
 | _::_::_::_::_::_::_::_,h=>simp only[List.length_cons] at h; omega
def cEa:List PV->Option (DT PV)
 | [.Ac _ 44 es,.fn (.func 160) [] []]=>some (.br (decide (es.length<=6)) (.leaf (.Ac false 44 (nuW 0 es))) .no)
 | _=>none
theorem oEa (args:List PV) (d:DT PV) (r:PV) (h:cEa args=some d) (hr:d.run=some r):Ak Tryz.prog 78 args r:=by
 unfold cEa at h; split at h
 ·rename_i f es
  cases h
  obtain ⟨h1,rfl⟩:=Aq hr
  exact qEa f es (of_decide_eq_true h1)
 ·cases h
noncomputable def TC0:Ad:=(((((({}:Ad).addKeys Tryz.prog kth).Ag 78 cEa).Ag 18 cGrG).Ag 79 cWo).addK 124)
theorem okTC0:Ab Tryz.prog TC0.env:=((((((Ab.addKeys Af kth_ok).Ag eEa oEa).Ag eGrp oGrG).Ag eWo oWo).addK 124))
def gp1 (g:List PV) (v:Int):Int->Nat->List (PV × PV)->List (PV × PV)
 | _,0,D=>D
 | k,n+1,D=>gp1 g v (k+1) n (mput D (iv (nI g k)) (iv v))
abbrev gEl (G:List PV) (i:Int):List PV:=eL (G.getD i.toNat .any)
def gpA (G:List PV):Int->Nat->List (PV × PV)->List (PV × PV)
 | _,0,D=>D
 | i,n+1,D=>gpA G (i+1) n (gp1 (gEl G i) i 0 (gEl G i).length D)
theorem bigG_at {G:List PV} (h:okG G=true) {i:Int} (h1:0<=i) (h2:i<(G.length:Int)):(gEl G i).length<=1000000:=by
 unfold okG bigN at h
 rw[Bool.and_eq_true,List.all_eq_true] at h
 unfold gEl
 rw[List.getD_eq_getElem?_getD,List.getElem?_eq_getElem (by omega)]
 exact of_decide_eq_true (h.2 _ (List.getElem_mem (l:=G) (n:=i.toNat) (by omega)))
theorem bigG_len {G:List PV} (h:okG G=true):G.length<=1000000:=by
 unfold okG at h
 rw[Bool.and_eq_true] at h
 exact of_decide_eq_true h.1
def shGA:Hx.S1:=⟨32,[(3,.mp 0),(5,I64),(13,.Ac 22),(14,I64),(15,I64),(20,.Ac 3),(21,I64),(22,I64)],[.map 3 3]⟩
abbrev lGA (n:Int) (f:Bool) (G:List PV) (l i:Int) (g:Bool) (es:List PV) (m k:Int) (D:List (PV × PV)):LS:=([.i n,.l f G,.i l,.i i,.l g es,.i m,.i k],[.m D])
noncomputable abbrev hGA (D:List (PV × PV)):List Row:=(shGA.put (lGA 0 true [] 0 0 true [] 0 0 D)).2
abbrev tGA (f:Bool) (G:List PV) (l i:Int):List PV:=tm 32 [(3,.mp 0),(13,.Ac f 22 G),(14,iv l),(15,iv i)]
theorem qGA (n:Int) (f:Bool) (G:List PV) (l i:Int) (g:Bool) (es:List PV) (m k:Int) (D:List (PV × PV)):Al Tryz.prog TC0 60 124 (Ao Tryz.f124 7) [3,5,13,14,15,20,21,22] [3,13,14,15] (shGA.put (lGA n f G l i g es m k D)).1 (shGA.put (lGA n f G l i g es m k D)).2 =
 bif decide (k<m) then bif inr es k then some (.normal,shGA.put (lGA n f G l i g es m (W (k+1)) (mput D (iv (nI es k)) (iv n)))) else none
 else some (.exit 2,tGA f G l i,hGA D):=by kernel_rfl
def pGA:LS->Bool
 | ([.i _,.l _ _,.i _,.i _,.l _ es,.i m,.i k],[.m _])=>decide (0<=k)&&decide (m=(es.length:Int))&&An es
 | _=>false
noncomputable def fGA:LS->DT (PX × List PV × List Row)
 | ([.i n,.l f G,.i l,.i i,.l _ es,.i m,.i k],[.m D])=>.leaf (.exit 2,tGA f G l i,hGA (gp1 es n k (m-k).toNat D))
 | _=>.no
def mGA:LS->Nat
 | ([.i _,.l _ _,.i _,.i _,.l _ _,.i m,.i k],[.m _])=>(m-k).toNat
 | _=>0
theorem sGA:∀ s r,pGA s=true->(fGA s).run=some r->r.1 ≠ .normal/\(Al Tryz.prog TC0 60 124 (Ao Tryz.f124 7) [3,5,13,14,15,20,21,22] [3,13,14,15] (shGA.put s).1 (shGA.put s).2=some r \/
   ∃ s',Al Tryz.prog TC0 60 124 (Ao Tryz.f124 7) [3,5,13,14,15,20,21,22] [3,13,14,15] (shGA.put s).1 (shGA.put s).2=some (.normal,shGA.put s')/\pGA s'=true/\mGA s'<mGA s/\(fGA s').run=some r):=by
 intro t r hp hr
 unfold pGA at hp; split at hp
 ·rename_i n f G l i g es m k D
  simp only[Bool.and_eq_true,decide_eq_true_eq] at hp
  obtain ⟨⟨h1,rfl⟩,h3⟩:=hp
  have hr':=(Option.some.inj hr).symm
  refine ⟨by rw[hr']; simp,?_⟩
  rw[show shGA.put ([.i n,.l f G,.i l,.i i,.l g es,.i (es.length:Int),.i k],[.m D])=shGA.put (lGA n f G l i g es (es.length:Int) k D) from rfl,qGA]
  by_cases hk:k<(es.length:Int)
  ·obtain ⟨q,hq⟩:∃ q,((es.length:Int)-k).toNat=q+1:=⟨((es.length:Int)-k).toNat-1,by omega⟩
   have hq2:((es.length:Int)-(k+1)).toNat=q:=by omega
   rw[hq] at hr'
   rw[decide_eq_true hk,cond_true,Am h1 hk,cond_true,W_id (n:=k+1) (by omega) (by omega)]
   refine .inr ⟨lGA n f G l i g es (es.length:Int) (k+1) (mput D (iv (nI es k)) (iv n)),rfl,by simp only[pGA,Bool.and_eq_true,decide_eq_true_eq]; exact ⟨⟨by omega,trivial⟩,h3⟩,by simp only[mGA]; omega,?_⟩
   rw[hr']
   simp only[fGA,hq2,gp1]
   rfl
  ·rw[decide_eq_false hk]
   rw[show ((es.length:Int)-k).toNat=0 by omega] at hr'
   exact .inl (by rw[hr']; rfl)
 ·cases hp
noncomputable def TC1:Ad:=TC0.addW 124 7 [3,5,13,14,15,20,21,22] [] shGA pGA fGA
theorem okTC1:Ab Tryz.prog TC1.env:=
 okTC0.addW (n:=60) Tryz.func124 (show Tryz.f124.body=some (bod Tryz.f124) by kernel_rfl) (show (loops (bod Tryz.f124)).filter (fun b=>rid b==7)=[Ao Tryz.f124 7] by kernel_rfl) [3,5,13,14,15,20,21,22] [3,13,14,15] [] shGA mGA sGA
def shHA:Hx.S1:=⟨32,[(3,.mp 0),(13,.Ac 22),(14,I64),(15,I64)],[.map 3 3]⟩
abbrev lHA (f:Bool) (G:List PV) (l i:Int) (D:List (PV × PV)):LS:=([.l f G,.i l,.i i],[.m D])
theorem qHA (f:Bool) (G:List PV) (l i:Int) (D:List (PV × PV)):Al Tryz.prog TC1 60 124 (Ao Tryz.f124 4) [3,13,14,15] [3] (shHA.put (lHA f G l i D)).1 (shHA.put (lHA f G l i D)).2 =
 bif decide (i<l) then bif inr G i then bif pGA (lGA i f G l i false (gEl G i) ((gEl G i).length:Int) 0 D) then
  some (.normal,shHA.put (lHA f G l (W (i+1)) (gp1 (gEl G i) i 0 (((gEl G i).length:Int)-0).toNat D))) else none else none
 else some (.exit 0,tm 32 [(3,.mp 0)],hGA D):=by kernel_rfl
def pHA:LS->Bool
 | ([.l _ G,.i l,.i i],[.m _])=>decide (0<=i)&&decide (l=(G.length:Int))&&okG G
 | _=>false
noncomputable def fHA:LS->DT (PX × List PV × List Row)
 | ([.l _ G,.i l,.i i],[.m D])=>.leaf (.exit 0,tm 32 [(3,.mp 0)],hGA (gpA G i (l-i).toNat D))
 | _=>.no
def mHA:LS->Nat
 | ([.l _ _,.i l,.i i],[.m _])=>(l-i).toNat
 | _=>0
theorem sHA:∀ s r,pHA s=true->(fHA s).run=some r->r.1 ≠ .normal/\(Al Tryz.prog TC1 60 124 (Ao Tryz.f124 4) [3,13,14,15] [3] (shHA.put s).1 (shHA.put s).2=some r \/
   ∃ s',Al Tryz.prog TC1 60 124 (Ao Tryz.f124 4) [3,13,14,15] [3] (shHA.put s).1 (shHA.put s).2=some (.normal,shHA.put s')/\pHA s'=true/\mHA s'<mHA s/\(fHA s').run=some r):=by
 intro t r hp hr
 unfold pHA at hp; split at hp
 ·rename_i f G l i D
  simp only[Bool.and_eq_true,decide_eq_true_eq] at hp
  obtain ⟨⟨h1,rfl⟩,h3⟩:=hp
  have hr':=(Option.some.inj hr).symm
  refine ⟨by rw[hr']; simp,?_⟩
  rw[show shHA.put ([.l f G,.i (G.length:Int),.i i],[.m D])=shHA.put (lHA f G (G.length:Int) i D) from rfl,qHA]
  have hb:=bigG_len h3
  by_cases hi:i<(G.length:Int)
  ·obtain ⟨q,hq⟩:∃ q,((G.length:Int)-i).toNat=q+1:=⟨((G.length:Int)-i).toNat-1,by omega⟩
   have hq2:((G.length:Int)-(i+1)).toNat=q:=by omega
   rw[hq] at hr'
   have he:=bigG_at h3 h1 hi
   rw[decide_eq_true hi,cond_true,Am h1 hi,cond_true,W_id (n:=i+1) (by omega) (by omega),show pGA (lGA i f G (G.length:Int) i false (gEl G i) ((gEl G i).length:Int) 0 D)=true by simp only[pGA,Bool.and_eq_true,decide_eq_true_eq]; exact ⟨⟨Int.le_refl _,trivial⟩,he⟩,
    show (((gEl G i).length:Int)-0).toNat=(gEl G i).length by omega]
   refine .inr ⟨lHA f G (G.length:Int) (i+1) (gp1 (gEl G i) i 0 (gEl G i).length D),rfl,by simp only[pHA,Bool.and_eq_true,decide_eq_true_eq]; exact ⟨⟨by omega,trivial⟩,h3⟩,by simp only[mHA]; omega,?_⟩
   rw[hr']
   simp only[fHA,hq2,gpA]
   rfl
  ·rw[decide_eq_false hi]
   rw[show ((G.length:Int)-i).toNat=0 by omega] at hr'
   exact .inl (by rw[hr']; rfl)
 ·cases hp
noncomputable def TC2:Ad:=TC1.addW 124 4 [3,13,14,15] [] shHA pHA fHA
theorem okTC2:Ab Tryz.prog TC2.env:=
 okTC1.addW (n:=60) Tryz.func124 (show Tryz.f124.body=some (bod Tryz.f124) by kernel_rfl) (show (loops (bod Tryz.f124)).filter (fun b=>rid b==4)=[Ao Tryz.f124 4] by kernel_rfl) [3,13,14,15] [3] [] shHA mHA sHA
def shGB:Hx.S1:=⟨32,[(3,.mp 1),(5,I64),(13,.Ac 22),(14,I64),(15,I64),(20,.Ac 3),(21,I64),(22,I64)],[.map 3 3,.map 3 3]⟩
abbrev lGB (n:Int) (f:Bool) (G:List PV) (l i:Int) (g:Bool) (es:List PV) (m k:Int) (D0:List (PV × PV)) (D:List (PV × PV)):LS:=([.i n,.l f G,.i l,.i i,.l g es,.i m,.i k],[.m D0,.m D])
noncomputable abbrev hGB (D0:List (PV × PV)) (D:List (PV × PV)):List Row:=(shGB.put (lGB 0 true [] 0 0 true [] 0 0 D0 D)).2
abbrev tGB (f:Bool) (G:List PV) (l i:Int):List PV:=tm 32 [(3,.mp 1),(13,.Ac f 22 G),(14,iv l),(15,iv i)]
theorem qGB (n:Int) (f:Bool) (G:List PV) (l i:Int) (g:Bool) (es:List PV) (m k:Int) (D0:List (PV × PV)) (D:List (PV × PV)):Al Tryz.prog TC2 60 124 (Ao Tryz.f124 7) [3,5,13,14,15,20,21,22] [3,13,14,15] (shGB.put (lGB n f G l i g es m k D0 D)).1 (shGB.put (lGB n f G l i g es m k D0 D)).2 =
 bif decide (k<m) then bif inr es k then some (.normal,shGB.put (lGB n f G l i g es m (W (k+1)) D0 (mput D (iv (nI es k)) (iv n)))) else none
 else some (.exit 2,tGB f G l i,hGB D0 D):=by kernel_rfl
def pGB:LS->Bool
 | ([.i _,.l _ _,.i _,.i _,.l _ es,.i m,.i k],[.m _,.m _])=>decide (0<=k)&&decide (m=(es.length:Int))&&An es
 | _=>false
noncomputable def fGB:LS->DT (PX × List PV × List Row)
 | ([.i n,.l f G,.i l,.i i,.l _ es,.i m,.i k],[.m D0,.m D])=>.leaf (.exit 2,tGB f G l i,hGB D0 (gp1 es n k (m-k).toNat D))
 | _=>.no
def mGB:LS->Nat
 | ([.i _,.l _ _,.i _,.i _,.l _ _,.i m,.i k],[.m _,.m _])=>(m-k).toNat
 | _=>0
theorem sGB:∀ s r,pGB s=true->(fGB s).run=some r->r.1 ≠ .normal/\(Al Tryz.prog TC2 60 124 (Ao Tryz.f124 7) [3,5,13,14,15,20,21,22] [3,13,14,15] (shGB.put s).1 (shGB.put s).2=some r \/
   ∃ s',Al Tryz.prog TC2 60 124 (Ao Tryz.f124 7) [3,5,13,14,15,20,21,22] [3,13,14,15] (shGB.put s).1 (shGB.put s).2=some (.normal,shGB.put s')/\pGB s'=true/\mGB s'<mGB s/\(fGB s').run=some r):=by
 intro t r hp hr
 unfold pGB at hp; split at hp
 ·rename_i n f G l i g es m k D0 D
  simp only[Bool.and_eq_true,decide_eq_true_eq] at hp
  obtain ⟨⟨h1,rfl⟩,h3⟩:=hp
  have hr':=(Option.some.inj hr).symm
  refine ⟨by rw[hr']; simp,?_⟩
  rw[show shGB.put ([.i n,.l f G,.i l,.i i,.l g es,.i (es.length:Int),.i k],[.m D0,.m D])=shGB.put (lGB n f G l i g es (es.length:Int) k D0 D) from rfl,qGB]
  by_cases hk:k<(es.length:Int)
  ·obtain ⟨q,hq⟩:∃ q,((es.length:Int)-k).toNat=q+1:=⟨((es.length:Int)-k).toNat-1,by omega⟩
   have hq2:((es.length:Int)-(k+1)).toNat=q:=by omega
   rw[hq] at hr'
   rw[decide_eq_true hk,cond_true,Am h1 hk,cond_true,W_id (n:=k+1) (by omega) (by omega)]
   refine .inr ⟨lGB n f G l i g es (es.length:Int) (k+1) D0 (mput D (iv (nI es k)) (iv n)),rfl,by simp only[pGB,Bool.and_eq_true,decide_eq_true_eq]; exact ⟨⟨by omega,trivial⟩,h3⟩,by simp only[mGB]; omega,?_⟩
   rw[hr']
   simp only[fGB,hq2,gp1]
   rfl
  ·rw[decide_eq_false hk]
   rw[show ((es.length:Int)-k).toNat=0 by omega] at hr'
   exact .inl (by rw[hr']; rfl)
 ·cases hp
noncomputable def TC3:Ad:=TC2.addW 124 7 [3,5,13,14,15,20,21,22] [] shGB pGB fGB
theorem okTC3:Ab Tryz.prog TC3.env:=
 okTC2.addW (n:=60) Tryz.func124 (show Tryz.f124.body=some (bod Tryz.f124) by kernel_rfl) (show (loops (bod Tryz.f124)).filter (fun b=>rid b==7)=[Ao Tryz.f124 7] by kernel_rfl) [3,5,13,14,15,20,21,22] [3,13,14,15] [] shGB mGB sGB
def shHB:Hx.S1:=⟨32,[(3,.mp 1),(13,.Ac 22),(14,I64),(15,I64)],[.map 3 3,.map 3 3]⟩
abbrev lHB (f:Bool) (G:List PV) (l i:Int) (D0:List (PV × PV)) (D:List (PV × PV)):LS:=([.l f G,.i l,.i i],[.m D0,.m D])
theorem qHB (f:Bool) (G:List PV) (l i:Int) (D0:List (PV × PV)) (D:List (PV × PV)):Al Tryz.prog TC3 60 124 (Ao Tryz.f124 4) [3,13,14,15] [3] (shHB.put (lHB f G l i D0 D)).1 (shHB.put (lHB f G l i D0 D)).2 =
 bif decide (i<l) then bif inr G i then bif pGB (lGB i f G l i false (gEl G i) ((gEl G i).length:Int) 0 D0 D) then
  some (.normal,shHB.put (lHB f G l (W (i+1)) D0 (gp1 (gEl G i) i 0 (((gEl G i).length:Int)-0).toNat D))) else none else none
 else some (.exit 0,tm 32 [(3,.mp 1)],hGB D0 D):=by kernel_rfl
def pHB:LS->Bool
 | ([.l _ G,.i l,.i i],[.m _,.m _])=>decide (0<=i)&&decide (l=(G.length:Int))&&okG G
 | _=>false
noncomputable def fHB:LS->DT (PX × List PV × List Row)
 | ([.l _ G,.i l,.i i],[.m D0,.m D])=>.leaf (.exit 0,tm 32 [(3,.mp 1)],hGB D0 (gpA G i (l-i).toNat D))
 | _=>.no
def mHB:LS->Nat
 | ([.l _ _,.i l,.i i],[.m _,.m _])=>(l-i).toNat
 | _=>0
theorem sHB:∀ s r,pHB s=true->(fHB s).run=some r->r.1 ≠ .normal/\(Al Tryz.prog TC3 60 124 (Ao Tryz.f124 4) [3,13,14,15] [3] (shHB.put s).1 (shHB.put s).2=some r \/
   ∃ s',Al Tryz.prog TC3 60 124 (Ao Tryz.f124 4) [3,13,14,15] [3] (shHB.put s).1 (shHB.put s).2=some (.normal,shHB.put s')/\pHB s'=true/\mHB s'<mHB s/\(fHB s').run=some r):=by
 intro t r hp hr
 unfold pHB at hp; split at hp
 ·rename_i f G l i D0 D
  simp only[Bool.and_eq_true,decide_eq_true_eq] at hp
  obtain ⟨⟨h1,rfl⟩,h3⟩:=hp
  have hr':=(Option.some.inj hr).symm
  refine ⟨by rw[hr']; simp,?_⟩
  rw[show shHB.put ([.l f G,.i (G.length:Int),.i i],[.m D0,.m D])=shHB.put (lHB f G (G.length:Int) i D0 D) from rfl,qHB]
  have hb:=bigG_len h3
  by_cases hi:i<(G.length:Int)
  ·obtain ⟨q,hq⟩:∃ q,((G.length:Int)-i).toNat=q+1:=⟨((G.length:Int)-i).toNat-1,by omega⟩
   have hq2:((G.length:Int)-(i+1)).toNat=q:=by omega
   rw[hq] at hr'
   have he:=bigG_at h3 h1 hi
   rw[decide_eq_true hi,cond_true,Am h1 hi,cond_true,W_id (n:=i+1) (by omega) (by omega),show pGB (lGB i f G (G.length:Int) i false (gEl G i) ((gEl G i).length:Int) 0 D0 D)=true by simp only[pGB,Bool.and_eq_true,decide_eq_true_eq]; exact ⟨⟨Int.le_refl _,trivial⟩,he⟩,
    show (((gEl G i).length:Int)-0).toNat=(gEl G i).length by omega]
   refine .inr ⟨lHB f G (G.length:Int) (i+1) D0 (gp1 (gEl G i) i 0 (gEl G i).length D),rfl,by simp only[pHB,Bool.and_eq_true,decide_eq_true_eq]; exact ⟨⟨by omega,trivial⟩,h3⟩,by simp only[mHB]; omega,?_⟩
   rw[hr']
   simp only[fHB,hq2,gpA]
   rfl
  ·rw[decide_eq_false hi]
   rw[show ((G.length:Int)-i).toNat=0 by omega] at hr'
   exact .inl (by rw[hr']; rfl)
 ·cases hp
noncomputable def TC4:Ad:=TC3.addW 124 4 [3,13,14,15] [] shHB pHB fHB
theorem okTC4:Ab Tryz.prog TC4.env:=
 okTC3.addW (n:=60) Tryz.func124 (show Tryz.f124.body=some (bod Tryz.f124) by kernel_rfl) (show (loops (bod Tryz.f124)).filter (fun b=>rid b==4)=[Ao Tryz.f124 4] by kernel_rfl) [3,13,14,15] [3] [] shHB mHB sHB
end Go.Hn
/- Thin: breaks as a contract. -/
namespace Go.Hn
open Go.Hx Go.Hg Go.Proofs
def mgI (D:List (PV × PV)) (x:Int):Int:=((mget (iv 0) D (iv x)).cellAt 0).getI
def koI (i a:Int):Int:=bif decide (i > a) then W (i-1) else i
def shK1:Hx.S1:=⟨57,[(1,I64),(5,.mp 0),(6,.mp 1),(7,.mp 2),(20,I64),(21,I64)],[.map 3 3,.map 3 3,.map 3 3]⟩
abbrev lK1 (a n i:Int) (D E A:List (PV × PV)):LS:=([.i a,.i n,.i i],[.m D,.m E,.m A])
noncomputable abbrev hK1 (D E A:List (PV × PV)):List Row:=(shK1.put (lK1 0 0 0 D E A)).2
theorem qK1 (a n i:Int) (D E A:List (PV × PV)):Al Tryz.prog TC4 60 86 (Ao Tryz.f86 5) [1,5,6,7,20,21] [4] (shK1.put (lK1 a n i D E A)).1 (shK1.put (lK1 a n i D E A)).2 =
 bif decide (i<n) then bif i==a then some (.normal,shK1.put (lK1 a n (W (i+1)) D E A)) else
  bif decide (i > a) then
   bif mhas A (iv (mgI D i)) then bif mgI A (mgI D i) != mgI E (W (i-1)) then some (.ret,tm 57 [(4,bv true)],hK1 D E A) else some (.normal,shK1.put (lK1 a n (W (i+1)) D E (mput A (iv (mgI D i)) (iv (mgI E (W (i-1)))))))
   else some (.normal,shK1.put (lK1 a n (W (i+1)) D E (mput A (iv (mgI D i)) (iv (mgI E (W (i-1)))))))
  else bif mhas A (iv (mgI D i)) then bif mgI A (mgI D i) != mgI E i then some (.ret,tm 57 [(4,bv true)],hK1 D E A) else some (.normal,shK1.put (lK1 a n (W (i+1)) D E (mput A (iv (mgI D i)) (iv (mgI E i)))))
   else some (.normal,shK1.put (lK1 a n (W (i+1)) D E (mput A (iv (mgI D i)) (iv (mgI E i)))))
 else some (.exit 0,tm 57 [],hK1 D E A):=by kernel_rfl
def brk (a:Int) (D E:List (PV × PV)):Int->Nat->List (PV × PV)->Bool
 | _,0,_=>false
 | i,n+1,A=>bif i==a then brk a D E (i+1) n A else
  (mhas A (iv (mgI D i))&&(mgI A (mgI D i) != mgI E (koI i a)))||brk a D E (i+1) n (mput A (iv (mgI D i)) (iv (mgI E (koI i a))))
def brA (a:Int) (D E:List (PV × PV)):Int->Nat->List (PV × PV)->List (PV × PV)
 | _,0,A=>A
 | i,n+1,A=>bif i==a then brA a D E (i+1) n A else
  bif mhas A (iv (mgI D i))&&(mgI A (mgI D i) != mgI E (koI i a)) then A else brA a D E (i+1) n (mput A (iv (mgI D i)) (iv (mgI E (koI i a))))
def pK1:LS->Bool
 | ([.i _,.i n,.i i],[.m _,.m _,.m _])=>decide (0<=i)&&decide (n<=1000)
 | _=>false
noncomputable def fK1:LS->DT (PX × List PV × List Row)
 | ([.i a,.i n,.i i],[.m D,.m E,.m A])=>.br (brk a D E i (n-i).toNat A) (.leaf (.ret,tm 57 [(4,bv true)],hK1 D E (brA a D E i (n-i).toNat A))) (.leaf (.exit 0,tm 57 [],hK1 D E (brA a D E i (n-i).toNat A)))
 | _=>.no
def mK1:LS->Nat
 | ([.i _,.i n,.i i],[.m _,.m _,.m _])=>(n-i).toNat
 | _=>0
theorem sK1:∀ s r,pK1 s=true->(fK1 s).run=some r->r.1 ≠ .normal/\(Al Tryz.prog TC4 60 86 (Ao Tryz.f86 5) [1,5,6,7,20,21] [4] (shK1.put s).1 (shK1.put s).2=some r \/
   ∃ s',Al Tryz.prog TC4 60 86 (Ao Tryz.f86 5) [1,5,6,7,20,21] [4] (shK1.put s).1 (shK1.put s).2=some (.normal,shK1.put s')/\pK1 s'=true/\mK1 s'<mK1 s/\(fK1 s').run=some r):=by
 intro t r hp hr
 unfold pK1 at hp; split at hp
 ·rename_i a n i D E A
  simp only[Bool.and_eq_true,decide_eq_true_eq] at hp
  obtain ⟨h1,h3⟩:=hp
  have hr':=run_br2 hr
  refine ⟨by rw[hr']; cases brk a D E i (n-i).toNat A <;> simp,?_⟩
  rw[show shK1.put ([.i a,.i n,.i i],[.m D,.m E,.m A])=shK1.put (lK1 a n i D E A) from rfl,qK1]
  by_cases hi:i<n
  ·obtain ⟨q,hq⟩:∃ q,(n-i).toNat=q+1:=⟨(n-i).toNat-1,by omega⟩
   have hq2:(n-(i+1)).toNat=q:=by omega
   have hw:W (i+1)=i+1:=W_id (by omega) (by omega)
   rw[hq] at hr'
   unfold brk brA at hr'
   rw[decide_eq_true hi,cond_true,hw]
   have nx:∀ A',r=(bif brk a D E (i+1) q A' then (.ret,tm 57 [(4,bv true)],hK1 D E (brA a D E (i+1) q A')) else (.exit 0,tm 57 [],hK1 D E (brA a D E (i+1) q A'))) ->
     ∃ s',some (PX.normal,shK1.put (lK1 a n (i+1) D E A'))=some (PX.normal,shK1.put s')/\pK1 s'=true/\mK1 s'<mK1 ([.i a,.i n,.i i],[.m D,.m E,.m A])/\(fK1 s').run=some r:=fun A' hA'=>by
    refine ⟨lK1 a n (i+1) D E A',rfl,by simp only[pK1,Bool.and_eq_true,decide_eq_true_eq]; omega,by simp only[mK1]; omega,?_⟩
    rw[hA']
    simp only[fK1,hq2]
    cases brk a D E (i+1) q A' <;> rfl
   have tl:∀ l:Int,koI i a=l->(i==a)=false->(bif mhas A (iv (mgI D i)) then bif mgI A (mgI D i) != mgI E l then some (PX.ret,tm 57 [(4,bv true)],hK1 D E A) else some (.normal,shK1.put (lK1 a n (i+1) D E (mput A (iv (mgI D i)) (iv (mgI E l)))))
     else some (.normal,shK1.put (lK1 a n (i+1) D E (mput A (iv (mgI D i)) (iv (mgI E l))))))=some r\/∃ s',(bif mhas A (iv (mgI D i)) then bif mgI A (mgI D i) != mgI E l then some (PX.ret,tm 57 [(4,bv true)],hK1 D E A) else some (.normal,shK1.put (lK1 a n (i+1) D E (mput A (iv (mgI D i)) (iv (mgI E l)))))
     else some (.normal,shK1.put (lK1 a n (i+1) D E (mput A (iv (mgI D i)) (iv (mgI E l))))))=some (.normal,shK1.put s')/\pK1 s'=true/\mK1 s'<mK1 ([.i a,.i n,.i i],[.m D,.m E,.m A])/\(fK1 s').run=some r:=fun l hl hia=>by
    rw[hl,hia] at hr'
    simp only[cond_false] at hr'
    cases hm:mhas A (iv (mgI D i)) with
    | false=>rw[hm] at hr'; exact .inr (nx _ (by simpa using hr'))
    | true =>
     rw[hm] at hr'
     cases hne:(mgI A (mgI D i) != mgI E l) with
     | true=>rw[hne] at hr'; exact .inl (by rw[hr']; rfl)
     | false=>rw[hne] at hr'; exact .inr (nx _ (by simpa using hr'))
   cases hia:i==a with
   | true=>rw[hia] at hr'; exact .inr (nx A hr')
   | false =>
    rw[cond_false]
    by_cases hg:i > a
    ·rw[decide_eq_true hg]
     exact tl (W (i-1)) (by unfold koI; rw[decide_eq_true hg]; rfl) hia
    ·rw[decide_eq_false hg]
     exact tl i (by unfold koI; rw[decide_eq_false hg]; rfl) hia
  ·rw[decide_eq_false hi]
   rw[show (n-i).toNat=0 by omega] at hr'
   exact .inl (by rw[hr']; rfl)
 ·cases hp
noncomputable def TD0:Ad:=TC4.addW 86 5 [1,5,6,7,20,21] [] shK1 pK1 fK1
theorem okTD0:Ab Tryz.prog TD0.env:=
 okTC4.addW (n:=60) Tryz.func86 (show Tryz.f86.body=some (bod Tryz.f86) by kernel_rfl) (show (loops (bod Tryz.f86)).filter (fun b=>rid b==5)=[Ao Tryz.f86 5] by kernel_rfl) [1,5,6,7,20,21] [4] [] shK1 mK1 sK1
def grM (ws:List PV):List (PV × PV):=gpA (grpG (nuW 0 ws)) 0 (grpG (nuW 0 ws)).length []
def brB (ws:List PV) (a:Int):Bool:=brk a (grM ws) (grM (ws.eraseIdx a.toNat)) 0 ws.length []
theorem qBr (f:Bool) (ws:List PV) (a:Int):Ah Tryz.prog TD0 100 86 [.Ac f 44 ws,iv a] =
 bif decide (ws.length<=6) then bif okWg (nuW 0 ws) then bif pHA (lHA false (grpG (nuW 0 ws)) ((grpG (nuW 0 ws)).length:Int) 0 []) then
  bif decide (ws.length<=6)&&decide (0<=a)&&decide (a<(ws.length:Int)) then
  bif decide ((ws.eraseIdx a.toNat).length<=6) then bif okWg (nuW 0 (ws.eraseIdx a.toNat)) then bif pHB (lHB false (grpG (nuW 0 (ws.eraseIdx a.toNat))) ((grpG (nuW 0 (ws.eraseIdx a.toNat))).length:Int) 0 (gpA (grpG (nuW 0 ws)) 0 (((grpG (nuW 0 ws)).length:Int)-0).toNat []) []) then
   bif pK1 (lK1 a (ws.length:Int) 0 (gpA (grpG (nuW 0 ws)) 0 (((grpG (nuW 0 ws)).length:Int)-0).toNat []) (gpA (grpG (nuW 0 (ws.eraseIdx a.toNat))) 0 (((grpG (nuW 0 (ws.eraseIdx a.toNat))).length:Int)-0).toNat []) []) then
    bif brk a (gpA (grpG (nuW 0 ws)) 0 (((grpG (nuW 0 ws)).length:Int)-0).toNat []) (gpA (grpG (nuW 0 (ws.eraseIdx a.toNat))) 0 (((grpG (nuW 0 (ws.eraseIdx a.toNat))).length:Int)-0).toNat []) 0 ((ws.length:Int)-0).toNat [] then some (bv true) else some (bv false)
   else none else none else none else none else none else none else none else none:=by kernel_rfl
end Go.Hn
/- Network: plain law of what is reached by joints. -/
namespace Go.Hn
open Go.Hx Go.Hg Go.Proofs
theorem eqS_iff (x y l u v m:Int):eqS x y l u v m=true ↔ ((x,y,l):S3)=(u,v,m):=by
 unfold eqS
 simp[Prod.mk.injEq,and_assoc]
theorem stB_len {L:List PV} (h:stB L=true):((L.length:Int)==0)=false:=by
 unfold stB at h
 simp only[Bool.and_eq_true,Bool.not_eq_true'] at h
 exact h.1
def Jn (e e':PV):Prop:=Ap e=Ap e'\/Ap e=stZ3 e'\/stZ3 e=Ap e'\/stZ3 e=stZ3 e'
def jnW (e e':PV):Bool:=jn (wL e) (wLv e) (wL e') (wLv e')
theorem jn_iff {e e':PV} (h:stB (wL e)=true) (h':stB (wL e')=true):jnW e e'=true ↔ Jn e e':=by
 unfold jnW jn jnB Jn
 rw[stB_len h,stB_len h']
 simp only[Bool.not_false,Bool.true_and,Bool.or_eq_true,eqS_iff]
 rfl
theorem Top.join {ws:List PV} {R:S3->S3} (t:Top ws R) {e e':PV} (h:e ∈ ws) (h':e' ∈ ws) (j:Jn e e'):R (Ap e)=R (Ap e'):=by
 have h1:=t.one e h
 have h2:=t.one e' h'
 rcases j with j | j | j | j
 ·rw[j]
 ·rw[j,h2]
 ·rw[h1,j]
 ·rw[h1,j,h2]
def jnE (ws:List PV) (i k:Int):Bool:=jnW (ws.getD i.toNat .any) (ws.getD k.toNat .any)
end Go.Hn
/- Thin: breaks as a contract; Can: the ways of the district. -/
namespace Go.Hn
open Go.Hx Go.Hg Go.Proofs
theorem nuW_wL:∀ {ws:List PV} {k:Int} {e:PV},e ∈ nuW k ws->∃ d ∈ ws,wL e=wL d
 | a::ws,k,e,he=>by
  rcases List.mem_cons.1 he with rfl | he
  ·exact ⟨a,.head _,rfl⟩
  ·obtain ⟨d,h1,h2⟩:=nuW_wL he
   exact ⟨d,.tail _ h1,h2⟩
theorem nuW_okW {ws:List PV} (h:okWg ws=true):∀ k,okWg (nuW k ws)=true:=fun k=>okWg_sub h (by rw[nuW_len]; exact Nat.le_refl _) fun e he=>nuW_wL he
theorem okW_erase {ws:List PV} (h:okWg ws=true) (k:Nat):okWg (ws.eraseIdx k)=true:=okWg_sub h (List.length_eraseIdx_le ..) fun e he=>⟨e,List.mem_of_mem_eraseIdx he,rfl⟩
def okBr (ws:List PV) (a:Int):Bool:=okWg ws&&(decide (0<=a)&&decide (a<(ws.length:Int)))
theorem qBr' (f:Bool) (ws:List PV) (a:Int) (h:okBr ws a=true):Ah Tryz.prog TD0 100 86 [.Ac f 44 ws,iv a]=some (bv (brB ws a)):=by
 unfold okBr at h
 simp only[Bool.and_eq_true,decide_eq_true_eq] at h
 obtain ⟨hw,h1,h2⟩:=h
 have h6:=(okWg_iff hw).1
 have k1:=nuW_okW hw 0
 have k2:=nuW_okW (okW_erase hw a.toNat) 0
 have h7:=(okWg_iff (okW_erase hw a.toNat)).1
 rw[qBr,decide_eq_true h6,k1,show pHA (lHA false (grpG (nuW 0 ws)) ((grpG (nuW 0 ws)).length:Int) 0 [])=true by simp only[pHA,Bool.and_eq_true,decide_eq_true_eq]; exact ⟨⟨Int.le_refl _,trivial⟩,okG_ofG k1⟩,
  decide_eq_true h1,decide_eq_true h2,decide_eq_true h7,k2,
  show ∀ D,pHB (lHB false (grpG (nuW 0 (ws.eraseIdx a.toNat))) ((grpG (nuW 0 (ws.eraseIdx a.toNat))).length:Int) 0 D [])=true from fun D=>by simp only[pHB,Bool.and_eq_true,decide_eq_true_eq]; exact ⟨⟨Int.le_refl _,trivial⟩,okG_ofG k2⟩,
  show ∀ D E A,pK1 (lK1 a (ws.length:Int) 0 D E A)=true from fun D E A=>by simp only[pK1,Bool.and_eq_true,decide_eq_true_eq]; omega]
 unfold brB grM
 simp only[cond_true,Bool.and_self,Int.sub_zero,Int.toNat_natCast]
 cases brk a (gpA (grpG (nuW 0 ws)) 0 (grpG (nuW 0 ws)).length []) (gpA (grpG (nuW 0 (ws.eraseIdx a.toNat))) 0 (grpG (nuW 0 (ws.eraseIdx a.toNat))).length []) 0 ws.length [] <;> rfl
def cBr:List PV->Option (DT PV)
 | [.Ac _ 44 ws,.val (.int .i64 a)]=>some (.br (okBr ws a) (.leaf (bv (brB ws a))) .no)
 | _=>none
theorem eBr:Hx.Enters Tryz.prog 86:=enters_of Tryz.func86 (show Tryz.f86.body=some (bod Tryz.f86) by kernel_rfl) (by kernel_rfl)
theorem oBr (args:List PV) (d:DT PV) (r:PV) (h:cBr args=some d) (hr:d.run=some r):Ak Tryz.prog 86 args r:=by
 unfold cBr at h; split at h
 ·cases h
  obtain ⟨h1,rfl⟩:=Aq hr
  exact (Aa okTD0 (n:=100) (qBr' _ _ _ h1)).2
 ·cases h
noncomputable def TE0:Ad:=((((TB1.Ag 86 cBr).Ag 22 cJnd).addN 37 7 [(8,44,8)]).addChain 37 19).addSoft 37 19
theorem okTE0:Ab Tryz.prog TE0.env:=Ab.addSoft ((((okTB1.Ag eBr oBr).Ag eJnd oJnd).addN 37 7 [(8,44,8)]).addChain 37 19) 37 19
abbrev wDs (e:PV):Int:=(e.cellAt 7).getI
abbrev wNm (e:PV):ByteArray:=(e.cellAt 4).getS
abbrev mapX:Hx.X1:=.agg [.Ac 120,.Ac 124,.Ac 44,.Ac 68]
def shL1:Hx.S1:=⟨97,[(2,.ptr 0 1 0 0),(5,I64),(6,.ptr 1 1 0 0),(7,.bool),(8,.sl 2),(9,I64),(29,.Ac 44),(30,I64),(31,I64)],[.one 65 4 mapX,.onef 44 8 wayX,.many 44 8]⟩
abbrev lL1 (a:Int) (b:Bool) (n l:Nat) (pl:Int) (f:Bool) (ws:List PV) (N i:Int) (fa:Bool) (es:List PV) (fb:Bool) (bs:List PV) (fw:Bool) (vs:List PV) (fd:Bool) (ds:List PV) (w:PV) (nl:Bool) (os:List PV):LS:=
 ([.i a,.b b,.n n,.n l,.i pl,.l f ws,.i N,.i i],[.l fa es,.l fb bs,.l fw vs,.l fd ds,.i (wI w),.l false (wL w),.i (wLv w),.s ((w.cellAt 3).getS),.s ((w.cellAt 4).getS),.b ((w.cellAt 5).getB),.i ((w.cellAt 6).getI),.i ((w.cellAt 7).getI),.l nl os])
def ownN (os:List PV) (n l:Nat) (k:Option (PX × List PV × List Row)):Option (PX × List PV × List Row):=bif decide (os.length=n)&&decide (n=l)&&decide ((n+1)*96<=140737488355328) then k else none
theorem qL1 (a:Int) (b:Bool) (n l:Nat) (pl:Int) (f:Bool) (ws:List PV) (N i:Int) (fa:Bool) (es:List PV) (fb:Bool) (bs:List PV) (fw:Bool) (vs:List PV) (fd:Bool) (ds:List PV) (w:PV) (nl:Bool) (os:List PV):
 Al Tryz.prog TE0 60 37 (Ao Tryz.f37 7) [2,5,6,7,8,9,29,30,31] [2,6,7,8,9] (shL1.put (lL1 a b n l pl f ws N i fa es fb bs fw vs fd ds w nl os)).1 (shL1.put (lL1 a b n l pl f ws N i fa es fb bs fw vs fd ds w nl os)).2 =
 bif decide (i<N) then bif inr ws i then bif wDs (ws.getD i.toNat .any) != wDs w then
   bif b then some (.normal,shL1.put (lL1 a true n l pl f ws N (W (i+1)) fa es fb bs fw vs fd ds w nl os)) else
    bif An (wL (ws.getD i.toNat .any))&&An (wL w) then some (.normal,shL1.put (lL1 a (jnW (ws.getD i.toNat .any) w) n l pl f ws N (W (i+1)) fa es fb bs fw vs fd ds w nl os)) else none
  else bif i==a then ownN os n l (some (.normal,shL1.put (lL1 a b (n+1) (n+1) (l:Int) f ws N (W (i+1)) fa es fb bs fw vs fd ds w (nl&&false) (os++[nbE (wI (ws.getD i.toNat .any)) (ws.getD i.toNat .any)]))))
  else ownN os n l (some (.normal,shL1.put (lL1 a b (n+1) (n+1) pl f ws N (W (i+1)) fa es fb bs fw vs fd ds w (nl&&false) (os++[nbE (wI (ws.getD i.toNat .any)) (ws.getD i.toNat .any)])))) else none
 else some (.exit 0,tm 97 [(2,.ptr 0 1 0 0),(6,.ptr 1 1 0 0),(7,bv b),(8,.sl 2 n 0 l),(9,iv pl)],(shL1.put (lL1 a b n l pl f ws N i fa es fb bs fw vs fd ds w nl os)).2):=by kernel_rfl
end Go.Hn
/- Thin: Can: the first loop as a contract; the titles. -/
namespace Go.Hn
open Go.Hx Go.Hg Go.Proofs
def odB (ws:List PV) (w:PV) (i:Int):Bool:=wDs (ws.getD i.toNat .any) != wDs w
def bdr (ws:List PV) (w:PV):Int->Nat->Bool->Bool
 | _,0,b=>b
 | i,n+1,b=>bdr ws w (i+1) n (bif odB ws w i then b||jnW (ws.getD i.toNat .any) w else b)
def owl (ws:List PV) (w:PV):Int->Nat->List PV
 | _,0=>[]
 | i,n+1=>bif odB ws w i then owl ws w (i+1) n else nbE (wI (ws.getD i.toNat .any)) (ws.getD i.toNat .any)::owl ws w (i+1) n
def plc (ws:List PV) (w:PV) (a:Int):Int->Nat->Int->Int->Int
 | _,0,_,pl=>pl
 | i,n+1,c,pl=>bif odB ws w i then plc ws w a (i+1) n c pl else plc ws w a (i+1) n (c+1) (bif i==a then c else pl)
theorem owl_len (ws:List PV) (w:PV):∀ (n:Nat) (i:Int),(owl ws w i n).length<=n
 | 0,_=>Nat.le_refl _
 | n+1,i=>by
  have:=owl_len ws w n (i+1)
  unfold owl
  cases odB ws w i <;> simp only[cond_true,cond_false,List.length_cons] <;> omega
def pL1:LS->Bool
 | ([.i _,.b _,.n n,.n l,.i _,.l _ ws,.i N,.i i],[.l _ _,.l _ _,.l _ _,.l _ _,.i _,.l _ M,.i _,.s _,.s _,.b _,.i _,.i _,.l _ os]) =>
  decide (0<=i)&&decide (N=(ws.length:Int))&&decide (ws.length<=1000)&&decide (n=os.length)&&decide (l=n)&&decide ((n:Int)<=i)&&(okB ws&&An M)
 | _=>false
abbrev wyE (id:Int) (M:List PV) (lv:Int) (c nm:ByteArray) (s:Bool) (wt ds:Int):PV:=.agg [iv id,.Ac false 37 M,iv lv,.val (.string c),.val (.string nm),bv s,iv wt,iv ds]
noncomputable def fL1:LS->DT (PX × List PV × List Row)
 | ([.i a,.b b,.n n,.n _,.i pl,.l f ws,.i N,.i i],[.l fa es,.l fb bs,.l fw vs,.l fd ds,.i id,.l false M,.i lv,.s c,.s nm,.b s,.i wt,.i di,.l nl os]) =>
  .leaf (.exit 0,tm 97 [(2,.ptr 0 1 0 0),(6,.ptr 1 1 0 0),(7,bv (bdr ws (wyE id M lv c nm s wt di) i (N-i).toNat b)),(8,.sl 2 (n+(owl ws (wyE id M lv c nm s wt di) i (N-i).toNat).length) 0 (n+(owl ws (wyE id M lv c nm s wt di) i (N-i).toNat).length)),(9,iv (plc ws (wyE id M lv c nm s wt di) a i (N-i).toNat n pl))],
   (shL1.put (lL1 a b n n pl f ws N i fa es fb bs fw vs fd ds (wyE id M lv c nm s wt di) (nl&&(owl ws (wyE id M lv c nm s wt di) i (N-i).toNat).isEmpty) (os++owl ws (wyE id M lv c nm s wt di) i (N-i).toNat))).2)
 | _=>.no
def mL1:LS->Nat
 | ([.i _,.b _,.n _,.n _,.i _,.l _ _,.i N,.i i],[.l _ _,.l _ _,.l _ _,.l _ _,.i _,.l _ _,.i _,.s _,.s _,.b _,.i _,.i _,.l _ _])=>(N-i).toNat
 | _=>0
theorem sL1:∀ s r,pL1 s=true->(fL1 s).run=some r->r.1 ≠ .normal/\(Al Tryz.prog TE0 60 37 (Ao Tryz.f37 7) [2,5,6,7,8,9,29,30,31] [2,6,7,8,9] (shL1.put s).1 (shL1.put s).2=some r \/
   ∃ s',Al Tryz.prog TE0 60 37 (Ao Tryz.f37 7) [2,5,6,7,8,9,29,30,31] [2,6,7,8,9] (shL1.put s).1 (shL1.put s).2=some (.normal,shL1.put s')/\pL1 s'=true/\mL1 s'<mL1 s/\(fL1 s').run=some r):=by
 intro t r hp hr
 unfold pL1 at hp; split at hp
 ·rename_i a b n l pl f ws N i fa es fb bs fw vs fd ds id fM M lv c nm s wt di nl os
  cases fM with
  | true=>cases hr
  | false =>
  simp only[Bool.and_eq_true,decide_eq_true_eq] at hp
  obtain ⟨⟨⟨⟨⟨⟨h1,rfl⟩,h3⟩,rfl⟩,rfl⟩,h6⟩,h7,h8⟩:=hp
  have hr':=(Option.some.inj hr).symm
  refine ⟨by rw[hr']; simp,?_⟩
  generalize hW:wyE id M lv c nm s wt di=w at hr'
  have hWL:wL w=M:=by rw[<- hW]; rfl
  rw[show shL1.put ([.i a,.b b,.n os.length,.n os.length,.i pl,.l f ws,.i (ws.length:Int),.i i],[.l fa es,.l fb bs,.l fw vs,.l fd ds,.i id,.l false M,.i lv,.s c,.s nm,.b s,.i wt,.i di,.l nl os])=shL1.put (lL1 a b os.length os.length pl f ws (ws.length:Int) i fa es fb bs fw vs fd ds w nl os) by rw[<- hW]; rfl,qL1]
  by_cases hi:i<(ws.length:Int)
  ·obtain ⟨q,hq⟩:∃ q,((ws.length:Int)-i).toNat=q+1:=⟨((ws.length:Int)-i).toNat-1,by omega⟩
   have hq2:((ws.length:Int)-(i+1)).toNat=q:=by omega
   rw[hq] at hr'
   have he:An (wL (ws.getD i.toNat .any))=true:=okB_at h7 h1 hi
   have hroom:∀ k,ownN os os.length os.length k=k:=fun k=>by unfold ownN; simp only[decide_true,Bool.true_and]; rw[decide_eq_true (show (os.length+1)*96<=140737488355328 by omega)]; rfl
   rw[decide_eq_true hi,cond_true,Am h1 hi,cond_true,W_id (n:=i+1) (by omega) (by omega),he,hWL,show An M=true from decide_eq_true h8]
   simp only[bdr,owl,plc] at hr'
   have hod:(wDs (ws.getD i.toNat .any) != wDs w)=odB ws w i:=rfl
   rw[hod]
   cases ho:odB ws w i with
   | true =>
    rw[ho] at hr'
    simp only[cond_true] at hr' ⊢
    have nx:(bif b then some (PX.normal,shL1.put (lL1 a true os.length os.length pl f ws (ws.length:Int) (i+1) fa es fb bs fw vs fd ds w nl os)) else some (PX.normal,shL1.put (lL1 a (jnW (ws.getD i.toNat .any) w) os.length os.length pl f ws (ws.length:Int) (i+1) fa es fb bs fw vs fd ds w nl os)))
      = some (PX.normal,shL1.put (lL1 a (b||jnW (ws.getD i.toNat .any) w) os.length os.length pl f ws (ws.length:Int) (i+1) fa es fb bs fw vs fd ds w nl os)):=by cases b <;> rfl
    refine .inr ⟨lL1 a (b||jnW (ws.getD i.toNat .any) w) os.length os.length pl f ws (ws.length:Int) (i+1) fa es fb bs fw vs fd ds w nl os,nx,by
     rw[<- hW]; simp only[pL1,Bool.and_eq_true,decide_eq_true_eq]; exact ⟨⟨⟨⟨⟨⟨by omega,trivial⟩,h3⟩,trivial⟩,trivial⟩,by omega⟩,h7,h8⟩,by simp only[mL1]; omega,?_⟩
    rw[hr',<- hW]
    simp only[fL1,hq2]
    rfl
   | false =>
    rw[ho] at hr'
    simp only[cond_false,hroom] at hr' ⊢
    have nx:(bif i==a then some (PX.normal,shL1.put (lL1 a b (os.length+1) (os.length+1) (os.length:Int) f ws (ws.length:Int) (i+1) fa es fb bs fw vs fd ds w (nl&&false) (os++[nbE (wI (ws.getD i.toNat .any)) (ws.getD i.toNat .any)])))
      else some (PX.normal,shL1.put (lL1 a b (os.length+1) (os.length+1) pl f ws (ws.length:Int) (i+1) fa es fb bs fw vs fd ds w (nl&&false) (os++[nbE (wI (ws.getD i.toNat .any)) (ws.getD i.toNat .any)]))))
      = some (PX.normal,shL1.put (lL1 a b (os.length+1) (os.length+1) (bif i==a then (os.length:Int) else pl) f ws (ws.length:Int) (i+1) fa es fb bs fw vs fd ds w false (os++[nbE (wI (ws.getD i.toNat .any)) (ws.getD i.toNat .any)]))):=by
     rw[Bool.and_false]; cases i==a <;> rfl
    refine .inr ⟨lL1 a b (os.length+1) (os.length+1) (bif i==a then (os.length:Int) else pl) f ws (ws.length:Int) (i+1) fa es fb bs fw vs fd ds w false (os++[nbE (wI (ws.getD i.toNat .any)) (ws.getD i.toNat .any)]),nx,by
     rw[<- hW]; simp only[pL1,Bool.and_eq_true,decide_eq_true_eq,List.length_append,List.length_cons,List.length_nil]; exact ⟨⟨⟨⟨⟨⟨by omega,trivial⟩,h3⟩,trivial⟩,trivial⟩,by omega⟩,h7,h8⟩,by simp only[mL1]; omega,?_⟩
    rw[hr',<- hW]
    simp only[fL1,hq2,List.append_assoc,List.cons_append,List.nil_append,Bool.false_and,List.length_cons,List.isEmpty_cons,Bool.and_false]
    rw[show ∀ m:Nat,os.length+1+m=os.length+(m+1) from fun m=>by omega,show ((os.length+1:Nat):Int)=(os.length:Int)+1 by omega]
    rfl
  ·rw[decide_eq_false hi]
   rw[show ((ws.length:Int)-i).toNat=0 by omega] at hr'
   exact .inl (by rw[hr',<- hW]; simp[owl,bdr,plc])
 ·cases hp
noncomputable def TF0:Ad:=TE0.addW 37 7 [2,5,6,7,8,9,29,30,31] [] shL1 pL1 fL1
theorem okTF0:Ab Tryz.prog TF0.env:=
 okTE0.addW (n:=60) Tryz.func37 (show Tryz.f37.body=some (bod Tryz.f37) by kernel_rfl) (show (loops (bod Tryz.f37)).filter (fun b=>rid b==7)=[Ao Tryz.f37 7] by kernel_rfl) [2,5,6,7,8,9,29,30,31] [2,6,7,8,9] [] shL1 mL1 sL1
abbrev ttE (e:PV):PV:=.agg [iv (wDs e),.val (.string (wNm e))]
def shL2:Hx.S1:=⟨97,[(6,.ptr 1 1 0 0),(7,.bool),(8,.sl 2),(9,I64),(12,.mp 3),(60,.Ac 44),(61,I64),(62,I64)],[.one 65 4 mapX,.onef 44 8 wayX,.many 44 8,.map 132 3]⟩
abbrev lL2 (b:Bool) (n l:Nat) (pl:Int) (f:Bool) (ws:List PV) (N i:Int) (fa:Bool) (es:List PV) (fb:Bool) (bs:List PV) (fw:Bool) (vs:List PV) (fd:Bool) (ds:List PV) (id:Int) (g:Bool) (M:List PV) (lv:Int) (c nm:ByteArray) (s:Bool) (wt di:Int) (nl:Bool) (os:List PV) (D:List (PV × PV)):LS:=
 ([.b b,.n n,.n l,.i pl,.l f ws,.i N,.i i],[.l fa es,.l fb bs,.l fw vs,.l fd ds,.i id,.l g M,.i lv,.s c,.s nm,.b s,.i wt,.i di,.l nl os,.m D])
def ttN (D:List (PV × PV)) (k:PV):List (PV × PV):=mset (mins (iv 0) D k) (midxN D k:Int).toNat (iv (W (((mget (iv 0) D k).cellAt 0).getI+1)))
def ttB (D:List (PV × PV)) (k:PV):Bool:=decide (0<=(midxN D k:Int))&&decide ((midxN D k:Int)<((mins (iv 0) D k).length:Int))
theorem qL2 (b:Bool) (n l:Nat) (pl:Int) (f:Bool) (ws:List PV) (N i:Int) (fa:Bool) (es:List PV) (fb:Bool) (bs:List PV) (fw:Bool) (vs:List PV) (fd:Bool) (ds:List PV) (id:Int) (g:Bool) (M:List PV) (lv:Int) (c nm:ByteArray) (s:Bool) (wt di:Int) (nl:Bool) (os:List PV) (D:List (PV × PV)):
 Al Tryz.prog TF0 60 37 (Ao Tryz.f37 17) [6,7,8,9,12,60,61,62] [6,7,8,9,12] (shL2.put (lL2 b n l pl f ws N i fa es fb bs fw vs fd ds id g M lv c nm s wt di nl os D)).1 (shL2.put (lL2 b n l pl f ws N i fa es fb bs fw vs fd ds id g M lv c nm s wt di nl os D)).2 =
 bif decide (i<N) then bif inr ws i then bif ttB D (ttE (ws.getD i.toNat .any)) then some (.normal,shL2.put (lL2 b n l pl f ws N (W (i+1)) fa es fb bs fw vs fd ds id g M lv c nm s wt di nl os (ttN D (ttE (ws.getD i.toNat .any))))) else none else none
 else some (.exit 3,tm 97 [(6,.ptr 1 1 0 0),(7,bv b),(8,.sl 2 n 0 l),(9,iv pl),(12,.mp 3)],(shL2.put (lL2 b n l pl f ws N i fa es fb bs fw vs fd ds id g M lv c nm s wt di nl os D)).2):=by kernel_rfl
end Go.Hn
/- Thin: Can: the titles as a contract. -/
namespace Go.Hn
open Go.Hx Go.Hg Go.Proofs
theorem ttB_true (D:List (PV × PV)) (k:PV):ttB D k=true:=by
 unfold ttB midxN mins
 rw[mhas_idx]
 cases hi:midx D k with
 | none=>simp; omega
 | some j =>
  obtain ⟨a,u,g1,_⟩:=midx_some hi
  have:=(List.getElem?_eq_some_iff.1 g1).1
  simp; omega
def ttl (ws:List PV):Int->Nat->List (PV × PV)->List (PV × PV)
 | _,0,D=>D
 | i,n+1,D=>ttl ws (i+1) n (ttN D (ttE (ws.getD i.toNat .any)))
def pL2:LS->Bool
 | ([.b _,.n _,.n _,.i _,.l _ ws,.i N,.i i],[.l _ _,.l _ _,.l _ _,.l _ _,.i _,.l _ _,.i _,.s _,.s _,.b _,.i _,.i _,.l _ _,.m _])=>decide (0<=i)&&decide (N=(ws.length:Int))&&decide (ws.length<=1000)
 | _=>false
noncomputable def fL2:LS->DT (PX × List PV × List Row)
 | ([.b b,.n n,.n l,.i pl,.l f ws,.i N,.i i],[.l fa es,.l fb bs,.l fw vs,.l fd ds,.i id,.l g M,.i lv,.s c,.s nm,.b s,.i wt,.i di,.l nl os,.m D]) =>
  .leaf (.exit 3,tm 97 [(6,.ptr 1 1 0 0),(7,bv b),(8,.sl 2 n 0 l),(9,iv pl),(12,.mp 3)],(shL2.put (lL2 b n l pl f ws N i fa es fb bs fw vs fd ds id g M lv c nm s wt di nl os (ttl ws i (N-i).toNat D))).2)
 | _=>.no
def mL2:LS->Nat
 | ([.b _,.n _,.n _,.i _,.l _ _,.i N,.i i],[.l _ _,.l _ _,.l _ _,.l _ _,.i _,.l _ _,.i _,.s _,.s _,.b _,.i _,.i _,.l _ _,.m _])=>(N-i).toNat
 | _=>0
theorem sL2:∀ s r,pL2 s=true->(fL2 s).run=some r->r.1 ≠ .normal/\(Al Tryz.prog TF0 60 37 (Ao Tryz.f37 17) [6,7,8,9,12,60,61,62] [6,7,8,9,12] (shL2.put s).1 (shL2.put s).2=some r \/
   ∃ s',Al Tryz.prog TF0 60 37 (Ao Tryz.f37 17) [6,7,8,9,12,60,61,62] [6,7,8,9,12] (shL2.put s).1 (shL2.put s).2=some (.normal,shL2.put s')/\pL2 s'=true/\mL2 s'<mL2 s/\(fL2 s').run=some r):=by
 intro t r hp hr
 unfold pL2 at hp; split at hp
 ·rename_i b n l pl f ws N i fa es fb bs fw vs fd ds id g M lv c nm s wt di nl os D
  simp only[Bool.and_eq_true,decide_eq_true_eq] at hp
  obtain ⟨⟨h1,rfl⟩,h3⟩:=hp
  have hr':=(Option.some.inj hr).symm
  refine ⟨by rw[hr']; simp,?_⟩
  rw[show shL2.put ([.b b,.n n,.n l,.i pl,.l f ws,.i (ws.length:Int),.i i],[.l fa es,.l fb bs,.l fw vs,.l fd ds,.i id,.l g M,.i lv,.s c,.s nm,.b s,.i wt,.i di,.l nl os,.m D])=shL2.put (lL2 b n l pl f ws (ws.length:Int) i fa es fb bs fw vs fd ds id g M lv c nm s wt di nl os D) from rfl,qL2]
  by_cases hi:i<(ws.length:Int)
  ·obtain ⟨q,hq⟩:∃ q,((ws.length:Int)-i).toNat=q+1:=⟨((ws.length:Int)-i).toNat-1,by omega⟩
   have hq2:((ws.length:Int)-(i+1)).toNat=q:=by omega
   rw[hq] at hr'
   rw[decide_eq_true hi,cond_true,Am h1 hi,cond_true,ttB_true,cond_true,W_id (n:=i+1) (by omega) (by omega)]
   refine .inr ⟨lL2 b n l pl f ws (ws.length:Int) (i+1) fa es fb bs fw vs fd ds id g M lv c nm s wt di nl os (ttN D (ttE (ws.getD i.toNat .any))),rfl,by simp only[pL2,Bool.and_eq_true,decide_eq_true_eq]; exact ⟨⟨by omega,trivial⟩,h3⟩,by simp only[mL2]; omega,?_⟩
   rw[hr']
   simp only[fL2,hq2,ttl]
   rfl
  ·rw[decide_eq_false hi]
   rw[show ((ws.length:Int)-i).toNat=0 by omega] at hr'
   exact .inl (by rw[hr']; rfl)
 ·cases hp
noncomputable def TG0:Ad:=TF0.addW 37 17 [6,7,8,9,12,60,61,62] [] shL2 pL2 fL2
theorem okTG0:Ab Tryz.prog TG0.env:=
 okTF0.addW (n:=60) Tryz.func37 (show Tryz.f37.body=some (bod Tryz.f37) by kernel_rfl) (show (loops (bod Tryz.f37)).filter (fun b=>rid b==17)=[Ao Tryz.f37 17] by kernel_rfl) [6,7,8,9,12,60,61,62] [6,7,8,9,12] [] shL2 mL2 sL2
end Go.Hn
/- Thin: Can as a plain function, and as a contract. -/
namespace Go.Hn
open Go.Hx Go.Hg Go.Proofs
abbrev nrE (e:PV):PV:=nbE (wI e) e
def ttC (ws:List PV) (e:PV):Int:=((mget (iv 0) (ttl ws 0 ((ws.length:Int)-0).toNat []) (.agg [iv (wDs e),.val (.string (wNm e))])).cellAt 0).getI
abbrev ownL (ws:List PV) (e:PV):List PV:=((([]++owl ws (nrE e) 0 ((ws.length:Int)-0).toNat).drop 0).take (0+(owl ws (nrE e) 0 ((ws.length:Int)-0).toNat).length))
def canT (fa:Bool) (ea:List PV) (fb:Bool) (eb:List PV) (f:Bool) (ws:List PV) (fd:Bool) (ed:List PV) (a:Int) (e:PV):Option PV:=
 bif pL1 (lL1 a (decide (wDs e<1)) 0 0 0 f ws (ws.length:Int) 0 fa ea fb eb f ws fd ed e true []) then
 bif pL2 (lL2 true 0 0 0 f ws (ws.length:Int) 0 fa ea fb eb f ws fd ed 0 false [] 0 .empty .empty false 0 0 true [] []) then
 bif bdr ws (nrE e) 0 ((ws.length:Int)-0).toNat (decide (wDs e<1)) then some (iv 25) else
 bif ([]++owl ws (nrE e) 0 ((ws.length:Int)-0).toNat).length==0+(owl ws (nrE e) 0 ((ws.length:Int)-0).toNat).length then
 bif okBr (ownL ws e) (plc ws (nrE e) a 0 ((ws.length:Int)-0).toNat 0 0) then bif brB (ownL ws e) (plc ws (nrE e) a 0 ((ws.length:Int)-0).toNat 0 0) then some (iv 23) else
  bif !((wNm e).toList==(ByteArray.mk #[]).toList) then bif decide (ttC ws e<2) then some (iv 24) else some (iv 0) else some (iv 0)
 else none else none else none else none
theorem qCan (fa:Bool) (ea:List PV) (fb:Bool) (eb:List PV) (f:Bool) (ws:List PV) (fd:Bool) (ed:List PV) (id:Int):Ah Tryz.prog TG0 100 37 [.agg [.Ac fa 120 ea,.Ac fb 124 eb,.Ac f 44 ws,.Ac fd 68 ed],iv id] =
 bif An ws then bif decide (fiW ws id 0 ws.length<0) then some (iv 5) else bif inr ws (fiW ws id 0 ws.length) then canT fa ea fb eb f ws fd ed (fiW ws id 0 ws.length) (ws.getD (fiW ws id 0 ws.length).toNat .any) else none else none:=by kernel_rfl
end Go.Hn
/- Thin: Can as a contract. -/
namespace Go.Hn
open Go.Hx Go.Hg Go.Proofs
def lsO (t:TypeId):PV->Option (List PV)
 | .val (.slice none 0 0)=>some []
 | .Ac _ t' es=>if t==t' then some es else none
 | _=>none
theorem lsO_rv {t:TypeId} {p:PV} {es:List PV} (h:lsO t p=some es):∃ f,∀ (C:Ctx) (V:Value),RV Tryz.prog C p V->RV Tryz.prog C (.Ac f t es) V:=by
 unfold lsO at h
 split at h
 ·cases h
  refine ⟨false,fun C V hv => ?_⟩
  cases hv
  exact .Ac (es:=[]) 0 0 (fun _ _=>undef) (Nat.le_refl _) (fun h=>by cases h) (fun h=>by simp at h) (fun x e j p h1 _=>by simp at h1) (fun x e j p h1 _=>by simp at h1) (fun e h1=>by cases h1)
 ·split at h
  ·rename_i f t' es' ht
   rw[beq_iff_eq] at ht
   subst ht
   cases h
   exact ⟨f,fun _ _ hv=>hv⟩
  ·cases h
 ·cases h
theorem pcall_weak {P:Program} {k:FuncId} {args args':List PV} {r:PV} (h:Ak P k args' r) (hw:∀ (C:Ctx) (Vs:Array Value),Cs P C args Vs->Cs P C args' Vs):Ak P k args r:=fun C hR Vs hs=>h C hR Vs (hw C Vs hs)
def lsM (a b w d:PV):Option (List PV):=match lsO 120 a,lsO 124 b,lsO 44 w,lsO 68 d with | some _,some _,some ws,some _=>some ws | _,_,_,_=>none
theorem lsM_weak {k:FuncId} {a b w d x r:PV} {ws:List PV} (h:lsM a b w d=some ws) (hp:∀ fa ea fb eb f fd ed,Ak Tryz.prog k [.agg [.Ac fa 120 ea,.Ac fb 124 eb,.Ac f 44 ws,.Ac fd 68 ed],x] r):Ak Tryz.prog k [.agg [a,b,w,d],x] r:=by
 unfold lsM at h
 split at h
 ·rename_i ea eb ws' ed h1 h2 h3 h4
  cases h
  obtain ⟨fa,r1⟩:=lsO_rv h1
  obtain ⟨fb,r2⟩:=lsO_rv h2
  obtain ⟨f,r3⟩:=lsO_rv h3
  obtain ⟨fd,r4⟩:=lsO_rv h4
  refine pcall_weak (hp fa ea fb eb f fd ed) fun C Vs hs=>⟨hs.1,fun j c v g1 g2 => ?_⟩
  match j with
  | 0 =>
   simp only[List.getElem?_cons_zero,Option.some.injEq] at g1
   subst g1
   have hv:=hs.2 0 _ v rfl g2
   cases hv with
   | agg hz hh =>
    refine .agg hz fun j c v q1 q2 => ?_
    match j with
    | 0=>simp at q1; subst q1; exact r1 C v (hh 0 a v rfl q2)
    | 1=>simp at q1; subst q1; exact r2 C v (hh 1 b v rfl q2)
    | 2=>simp at q1; subst q1; exact r3 C v (hh 2 w v rfl q2)
    | 3=>simp at q1; subst q1; exact r4 C v (hh 3 d v rfl q2)
    | j+4=>simp at q1
  | 1 =>
   simp only[List.getElem?_cons_succ,List.getElem?_cons_zero,Option.some.injEq] at g1
   subst g1
   exact hs.2 1 _ v rfl g2
  | j+2=>simp at g1
 ·cases h
def okC (ws:List PV):Bool:=okWg ws&&okB ws
def canE (ws:List PV) (a:Int) (e:PV):Int:=
 bif bdr ws (nrE e) 0 ws.length (decide (wDs e<1)) then 25 else bif brB (owl ws (nrE e) 0 ws.length) (plc ws (nrE e) a 0 ws.length 0 0) then 23 else
  bif !((wNm e).toList==(ByteArray.mk #[]).toList)&&decide (ttC ws e<2) then 24 else 0
def canW (ws:List PV) (id:Int):Int:=bif decide (fiW ws id 0 ws.length<0) then 5 else canE ws (fiW ws id 0 ws.length) (ws.getD (fiW ws id 0 ws.length).toNat .any)
theorem plc_done (ws:List PV) (w:PV) (a:Int):∀ (n:Nat) (i c pl:Int),a<i->plc ws w a i n c pl=pl
 | 0,_,_,_,_=>rfl
 | n+1,i,c,pl,h=>by
  unfold plc
  rw[show (i==a)=false by rw[beq_eq_false_iff_ne]; omega,plc_done ws w a n (i+1) c pl (by omega),cond_false,plc_done ws w a n (i+1) (c+1) pl (by omega)]
  cases odB ws w i <;> rfl
theorem plc_in (ws:List PV) (w:PV) (a:Int) (ho:odB ws w a=false):∀ (n:Nat) (i c pl:Int),i<=a->a<i+n->c<=plc ws w a i n c pl/\plc ws w a i n c pl<c+((owl ws w i n).length:Int)
 | 0,_,_,_,h1,h2=>by omega
 | n+1,i,c,pl,h1,h2=>by
  unfold plc owl
  by_cases e:i=a
  ·subst e
   rw[ho,beq_self_eq_true]
   simp only[cond_true,cond_false,List.length_cons]
   rw[plc_done ws w i n (i+1) (c+1) c (by omega)]
   omega
  ·have hx:(i==a)=false:=by rw[beq_eq_false_iff_ne]; exact e
   rw[hx]
   cases odB ws w i with
   | true=>simp only[cond_true]; exact plc_in ws w a ho n (i+1) c pl (by omega) (by omega)
   | false =>
    simp only[cond_false,List.length_cons]
    have:=plc_in ws w a ho n (i+1) (c+1) pl (by omega) (by omega)
    omega
theorem owl_mem (ws:List PV) (w:PV):∀ (n:Nat) (i:Int),0<=i->i+n<=(ws.length:Int)->∀ x ∈ owl ws w i n,∃ e ∈ ws,x=nrE e
 | 0,_,_,_,x,hx=>by cases hx
 | n+1,i,h0,h1,x,hx=>by
  unfold owl at hx
  have ih:=owl_mem ws w n (i+1) (by omega) (by omega)
  cases ho:odB ws w i with
  | true=>rw[ho] at hx; exact ih x hx
  | false =>
   rw[ho,cond_false] at hx
   rcases List.mem_cons.1 hx with rfl | hx
   ·obtain ⟨j,hj,_,e2⟩:=ws_at (ws:=ws) (k:=i) h0 (by omega)
    exact ⟨ws[j],List.getElem_mem hj,by rw[<- e2]⟩
   ·exact ih x hx
theorem owl_okW {ws:List PV} (h:okWg ws=true) (w:PV):okWg (owl ws w 0 ws.length)=true:=okWg_sub h (owl_len ..) fun x hx=>by
 obtain ⟨e,he,rfl⟩:=owl_mem ws w ws.length 0 (Int.le_refl _) (by omega) x hx
 exact ⟨e,he,rfl⟩
theorem fiW_range (ws:List PV) (id:Int):∀ (n:Nat) (k:Int),0<=k->fiW ws id k n<0\/(k<=fiW ws id k n/\fiW ws id k n<k+n/\wN ws (fiW ws id k n)=id)
 | 0,_,_=>.inl (by unfold fiW; omega)
 | n+1,k,h=>by
  unfold fiW
  cases he:wN ws k==id with
  | true=>right; simp only[cond_true]; exact ⟨Int.le_refl _,by omega,by simpa using he⟩
  | false =>
   simp only[cond_false]
   rcases fiW_range ws id n (k+1) (by omega) with h1 | ⟨h1,h2,h3⟩
   ·exact .inl h1
   ·exact .inr ⟨by omega,by omega,h3⟩
theorem canT_eq (fa:Bool) (ea:List PV) (fb:Bool) (eb:List PV) (f:Bool) (ws:List PV) (fd:Bool) (ed:List PV) (a:Int) (h:okC ws=true) (h0:0<=a) (h1:a<(ws.length:Int)):
  canT fa ea fb eb f ws fd ed a (ws.getD a.toNat .any)=some (iv (canE ws a (ws.getD a.toNat .any))):=by
 unfold okC at h
 rw[Bool.and_eq_true] at h
 obtain ⟨hw,hb⟩:=h
 have h6:=(okWg_iff hw).1
 have hbl:=okB_at hb h0 h1
 generalize he:ws.getD a.toNat .any=e at *
 have ho:odB ws (nrE e) a=false:=by
  unfold odB
  rw[he]
  show (wDs e != wDs e)=false
  exact bne_self_eq_false _
 have hp:=plc_in ws (nrE e) a ho ws.length 0 0 0 h0 (by omega)
 unfold canT canE ownL
 rw[show ((ws.length:Int)-0).toNat=ws.length by omega,List.nil_append,Nat.zero_add,List.drop_zero,List.take_length,beq_self_eq_true,
  show pL1 (lL1 a (decide (wDs e<1)) 0 0 0 f ws (ws.length:Int) 0 fa ea fb eb f ws fd ed e true [])=true by
   simp only[pL1,Bool.and_eq_true,decide_eq_true_eq]; exact ⟨⟨⟨⟨⟨⟨Int.le_refl _,trivial⟩,by omega⟩,rfl⟩,trivial⟩,Int.le_refl _⟩,hb,of_decide_eq_true hbl⟩,
  show pL2 (lL2 true 0 0 0 f ws (ws.length:Int) 0 fa ea fb eb f ws fd ed 0 false [] 0 .empty .empty false 0 0 true [] [])=true by
   simp only[pL2,Bool.and_eq_true,decide_eq_true_eq]; exact ⟨⟨Int.le_refl _,trivial⟩,by omega⟩,
  show okBr (owl ws (nrE e) 0 ws.length) (plc ws (nrE e) a 0 ws.length 0 0)=true by
   unfold okBr; rw[owl_okW hw,decide_eq_true hp.1,decide_eq_true (show plc ws (nrE e) a 0 ws.length 0 0<((owl ws (nrE e) 0 ws.length).length:Int) by omega)]; rfl]
 simp only[cond_true]
 cases bdr ws (nrE e) 0 ws.length (decide (wDs e<1)) <;> cases brB (owl ws (nrE e) 0 ws.length) (plc ws (nrE e) a 0 ws.length 0 0) <;> cases ((wNm e).toList==(ByteArray.mk #[]).toList) <;> cases decide (ttC ws e<2) <;> rfl
theorem qCan' (fa:Bool) (ea:List PV) (fb:Bool) (eb:List PV) (f:Bool) (ws:List PV) (fd:Bool) (ed:List PV) (id:Int) (h:okC ws=true):Ah Tryz.prog TG0 100 37 [.agg [.Ac fa 120 ea,.Ac fb 124 eb,.Ac f 44 ws,.Ac fd 68 ed],iv id]=some (iv (canW ws id)):=by
 have hw:=h
 unfold okC at hw
 rw[Bool.and_eq_true] at hw
 have h6:=(okWg_iff hw.1).1
 rw[qCan,show An ws=true from decide_eq_true (by omega)]
 unfold canW
 by_cases hn:fiW ws id 0 ws.length<0
 ·rw[decide_eq_true hn]; rfl
 ·rcases fiW_range ws id ws.length 0 (Int.le_refl _) with h1 | ⟨h1,h2,_⟩
  ·exact absurd h1 hn
  ·rw[decide_eq_false hn,Am h1 (by omega),canT_eq fa ea fb eb f ws fd ed _ h h1 (by omega)]; rfl
def cCan:List PV->Option (DT PV)
 | [.agg [a,b,w,d],.val (.int .i64 id)]=>match lsM a b w d with | some ws=>some (.br (okC ws) (.leaf (iv (canW ws id))) .no) | none=>none
 | _=>none
theorem eCan:Hx.Enters Tryz.prog 37:=(Aa okTG0 (n:=100) (qCan' true [] true [] true [] true [] 0 rfl)).1
theorem oCan (args:List PV) (d:DT PV) (r:PV) (h:cCan args=some d) (hr:d.run=some r):Ak Tryz.prog 37 args r:=by
 unfold cCan at h; split at h
 ·split at h
  ·rename_i ws hl
   cases h
   obtain ⟨h1,rfl⟩:=Aq hr
   exact lsM_weak hl fun fa ea fb eb f fd ed=>(Aa okTG0 (n:=100) (qCan' fa ea fb eb f ws fd ed _ h1)).2
  ·cases h
 ·cases h
end Go.Hn
/- Thin: Cost as a contract; All: a round. -/
namespace Go.Hn
open Go.Hx Go.Hg Go.Proofs
noncomputable def TJ0:Ad:=(TB1.Ag 37 cCan)
theorem okTJ0:Ab Tryz.prog TJ0.env:=(okTB1.Ag eCan oCan)
def costW (ws:List PV) (id:Int):Int:=bif decide (fiW ws id 0 ws.length<0) then 0 else W (4*((ws.getD (fiW ws id 0 ws.length).toNat .any).cellAt 6).getI)
theorem qCost (fa:Bool) (ea:List PV) (fb:Bool) (eb:List PV) (f:Bool) (ws:List PV) (fd:Bool) (ed:List PV) (id:Int):Ah Tryz.prog TJ0 100 39 [.agg [.Ac fa 120 ea,.Ac fb 124 eb,.Ac f 44 ws,.Ac fd 68 ed],iv id] =
 bif An ws then bif decide (fiW ws id 0 ws.length<0) then some (iv 0) else bif inr ws (fiW ws id 0 ws.length) then some (iv (W (4*((ws.getD (fiW ws id 0 ws.length).toNat .any).cellAt 6).getI))) else none else none:=by kernel_rfl
theorem qCost' (fa:Bool) (ea:List PV) (fb:Bool) (eb:List PV) (f:Bool) (ws:List PV) (fd:Bool) (ed:List PV) (id:Int) (h:An ws=true):Ah Tryz.prog TJ0 100 39 [.agg [.Ac fa 120 ea,.Ac fb 124 eb,.Ac f 44 ws,.Ac fd 68 ed],iv id]=some (iv (costW ws id)):=by
 rw[qCost,h]
 unfold costW
 by_cases hn:fiW ws id 0 ws.length<0
 ·rw[decide_eq_true hn]; rfl
 ·rcases fiW_range ws id ws.length 0 (Int.le_refl _) with h1 | ⟨h1,h2,_⟩
  ·exact absurd h1 hn
  ·rw[decide_eq_false hn,Am h1 (by omega)]; rfl
def cCost:List PV->Option (DT PV)
 | [.agg [a,b,w,d],.val (.int .i64 id)]=>match lsM a b w d with | some ws=>some (.br (An ws) (.leaf (iv (costW ws id))) .no) | none=>none
 | _=>none
theorem eCost:Hx.Enters Tryz.prog 39:=(Aa okTJ0 (n:=100) (qCost' true [] true [] true [] true [] 0 rfl)).1
theorem oCost (args:List PV) (d:DT PV) (r:PV) (h:cCost args=some d) (hr:d.run=some r):Ak Tryz.prog 39 args r:=by
 unfold cCost at h; split at h
 ·split at h
  ·rename_i ws hl
   cases h
   obtain ⟨h1,rfl⟩:=Aq hr
   exact lsM_weak hl fun fa ea fb eb f fd ed=>(Aa okTJ0 (n:=100) (qCost' fa ea fb eb f ws fd ed _ h1)).2
  ·cases h
 ·cases h
noncomputable def TJ1:Ad:=(TJ0.Ag 39 cCost).addN 43 2 [(4,81,5)]
theorem okTJ1:Ab Tryz.prog TJ1.env:=(okTJ0.Ag eCost oCost).addN 43 2 [(4,81,5)]
def shA1':Hx.S1:=⟨47,[(1,I64),(2,.ptr 0 1 0 0),(4,.sl 1),(8,.Ac 44),(9,I64),(10,I64)],[.one 65 4 mapX,.many 81 5]⟩
abbrev lM1 (d:Int) (n l:Nat) (f:Bool) (ws:List PV) (N k:Int) (fa:Bool) (ea:List PV) (fb:Bool) (eb:List PV) (g:Bool) (vs:List PV) (fd:Bool) (ed:List PV) (nl:Bool) (es:List PV):LS:=
 ([.i d,.n n,.n l,.l f ws,.i N,.i k],[.l fa ea,.l fb eb,.l g vs,.l fd ed,.l nl es])
def evE (vs:List PV) (id:Int):PV:=.agg [iv 3,iv (if (1:Int)<costW vs id then costW vs id else 1),iv id,iv 0,iv 0]
def roomE (es:List PV) (n l:Nat):Bool:=decide (es.length=n)&&decide (n=l)&&decide ((n+1)*40<=140737488355328)
end Go.Hn
/- Thin: All: its loop. -/
namespace Go.Hn
open Go.Hx Go.Hg Go.Proofs
abbrev tM1 (_:List PV) (n l:Nat):List PV:=tm 47 [(4,.sl 1 n 0 l)]
theorem qM1 (d:Int) (n l:Nat) (f:Bool) (ws:List PV) (N k:Int) (fa:Bool) (ea:List PV) (fb:Bool) (eb:List PV) (g:Bool) (vs:List PV) (fd:Bool) (ed:List PV) (nl:Bool) (es:List PV):
 Al Tryz.prog TJ1 60 43 (Ao Tryz.f43 2) [1,2,4,8,9,10] [4] (shA1'.put (lM1 d n l f ws N k fa ea fb eb g vs fd ed nl es)).1 (shA1'.put (lM1 d n l f ws N k fa ea fb eb g vs fd ed nl es)).2 =
 bif decide (k<N) then bif inr ws k then bif wDs (ws.getD k.toNat .any)==d then bif An vs then bif fiW vs (wN ws k) 0 vs.length==k then bif okC vs then bif canW vs (wN ws k)==0 then bif An vs then bif roomE es n l then
  some (.normal,shA1'.put (lM1 d (n+1) (n+1) f ws N (W (k+1)) fa ea fb eb g vs fd ed (nl&&false) (es++[evE vs (wN ws k)])))
  else none else none
  else some (.normal,shA1'.put (lM1 d n l f ws N (W (k+1)) fa ea fb eb g vs fd ed nl es)) else none
  else some (.normal,shA1'.put (lM1 d n l f ws N (W (k+1)) fa ea fb eb g vs fd ed nl es)) else none
  else some (.normal,shA1'.put (lM1 d n l f ws N (W (k+1)) fa ea fb eb g vs fd ed nl es)) else none
 else some (.exit 0,tM1 es n l,(shA1'.put (lM1 d n l f ws N k fa ea fb eb g vs fd ed nl es)).2):=by kernel_rfl
end Go.Hn
/- Thin: All as a contract. -/
namespace Go.Hn
open Go.Hx Go.Hg Go.Proofs
def goB (vs:List PV) (d:Int) (k:Int):Bool:=(wDs (vs.getD k.toNat .any)==d)&&((fiW vs (wN vs k) 0 vs.length==k)&&(canW vs (wN vs k)==0))
def alL (vs:List PV) (d:Int):Int->Nat->List PV
 | _,0=>[]
 | k,n+1=>bif goB vs d k then evE vs (wN vs k)::alL vs d (k+1) n else alL vs d (k+1) n
noncomputable def pM1:LS->Bool
 | ([.i _,.n n,.n l,.l _ ws,.i N,.i k],[.l _ _,.l _ _,.l _ vs,.l _ _,.l _ es])=>decide (0<=k)&&decide (N=(ws.length:Int))&&decide (n=es.length)&&decide (l=n)&&decide ((n:Int)<=k)&&(okC vs&&same ws vs)
 | _=>false
noncomputable def fM1:LS->DT (PX × List PV × List Row)
 | ([.i d,.n n,.n _,.l f ws,.i N,.i k],[.l fa ea,.l fb eb,.l g vs,.l fd ed,.l nl es]) =>
  .leaf (.exit 0,tM1 es (n+(alL vs d k (N-k).toNat).length) (n+(alL vs d k (N-k).toNat).length),(shA1'.put (lM1 d n n f ws N k fa ea fb eb g vs fd ed (nl&&(alL vs d k (N-k).toNat).isEmpty) (es++alL vs d k (N-k).toNat))).2)
 | _=>.no
def mM1:LS->Nat
 | ([.i _,.n _,.n _,.l _ _,.i N,.i k],[.l _ _,.l _ _,.l _ _,.l _ _,.l _ _])=>(N-k).toNat
 | _=>0
theorem okC_len {ws:List PV} (h:okC ws=true):ws.length<=6:=by
 unfold okC at h
 rw[Bool.and_eq_true] at h
 exact (okWg_iff h.1).1
theorem sM1:∀ s r,pM1 s=true->(fM1 s).run=some r->r.1 ≠ .normal/\(Al Tryz.prog TJ1 60 43 (Ao Tryz.f43 2) [1,2,4,8,9,10] [4] (shA1'.put s).1 (shA1'.put s).2=some r \/
   ∃ s',Al Tryz.prog TJ1 60 43 (Ao Tryz.f43 2) [1,2,4,8,9,10] [4] (shA1'.put s).1 (shA1'.put s).2=some (.normal,shA1'.put s')/\pM1 s'=true/\mM1 s'<mM1 s/\(fM1 s').run=some r):=by
 intro t r hp hr
 unfold pM1 at hp; split at hp
 ·rename_i d n l f ws N k fa ea fb eb g vs fd ed nl es
  simp only[Bool.and_eq_true,decide_eq_true_eq,same_iff] at hp
  obtain ⟨⟨⟨⟨⟨h1,rfl⟩,rfl⟩,rfl⟩,h5⟩,h6,rfl⟩:=hp
  have hr':=(Option.some.inj hr).symm
  refine ⟨by rw[hr']; simp,?_⟩
  rw[show shA1'.put ([.i d,.n es.length,.n es.length,.l f ws,.i (ws.length:Int),.i k],[.l fa ea,.l fb eb,.l g ws,.l fd ed,.l nl es])=shA1'.put (lM1 d es.length es.length f ws (ws.length:Int) k fa ea fb eb g ws fd ed nl es) from rfl,qM1]
  have h7:=okC_len h6
  by_cases hk:k<(ws.length:Int)
  ·obtain ⟨q,hq⟩:∃ q,((ws.length:Int)-k).toNat=q+1:=⟨((ws.length:Int)-k).toNat-1,by omega⟩
   have hq2:((ws.length:Int)-(k+1)).toNat=q:=by omega
   rw[hq] at hr'
   have hroom:roomE es es.length es.length=true:=by unfold roomE; simp; omega
   rw[decide_eq_true hk,cond_true,Am h1 hk,cond_true,W_id (n:=k+1) (by omega) (by omega),show An ws=true from decide_eq_true (by omega),h6,hroom]
   simp only[alL] at hr'
   have st:∀ (x y:Option (PX × List PV × List Row)),(bif wDs (ws.getD k.toNat .any)==d then bif true then bif fiW ws (wN ws k) 0 ws.length==k then bif true then bif canW ws (wN ws k)==0 then bif true then bif true then x else none else none else y else none else y else none else y)=bif goB ws d k then x else y:=fun x y=>by
    unfold goB
    cases wDs (ws.getD k.toNat .any)==d <;> cases fiW ws (wN ws k) 0 ws.length==k <;> cases canW ws (wN ws k)==0 <;> rfl
   rw[st]
   cases hg:goB ws d k with
   | false =>
    rw[hg] at hr'
    simp only[cond_false] at hr' ⊢
    refine .inr ⟨lM1 d es.length es.length f ws (ws.length:Int) (k+1) fa ea fb eb g ws fd ed nl es,rfl,by simp only[pM1,Bool.and_eq_true,decide_eq_true_eq,same_iff]; exact ⟨⟨⟨⟨⟨by omega,trivial⟩,trivial⟩,trivial⟩,by omega⟩,h6,trivial⟩,by simp only[mM1]; omega,?_⟩
    rw[hr']
    simp only[fM1,hq2]
    rfl
   | true =>
    rw[hg] at hr'
    simp only[cond_true] at hr' ⊢
    refine .inr ⟨lM1 d (es.length+1) (es.length+1) f ws (ws.length:Int) (k+1) fa ea fb eb g ws fd ed (nl&&false) (es++[evE ws (wN ws k)]),rfl,by
     simp only[pM1,Bool.and_eq_true,decide_eq_true_eq,same_iff,List.length_append,List.length_cons,List.length_nil]; exact ⟨⟨⟨⟨⟨by omega,trivial⟩,trivial⟩,trivial⟩,by omega⟩,h6,trivial⟩,by simp only[mM1]; omega,?_⟩
    rw[hr']
    simp only[fM1,hq2,List.append_assoc,List.cons_append,List.nil_append,Bool.false_and,List.length_cons,List.isEmpty_cons,Bool.and_false]
    rw[show ∀ m:Nat,es.length+1+m=es.length+(m+1) from fun m=>by omega]
    rfl
  ·rw[decide_eq_false hk]
   rw[show ((ws.length:Int)-k).toNat=0 by omega] at hr'
   exact .inl (by rw[hr']; simp[alL])
 ·cases hp
noncomputable def TL0:Ad:=TJ1.addW 43 2 [1,2,4,8,9,10] [] shA1' pM1 fM1
theorem okTL0:Ab Tryz.prog TL0.env:=
 okTJ1.addW (n:=60) Tryz.func43 (show Tryz.f43.body=some (bod Tryz.f43) by kernel_rfl) (show (loops (bod Tryz.f43)).filter (fun b=>rid b==2)=[Ao Tryz.f43 2] by kernel_rfl) [1,2,4,8,9,10] [4] [] shA1' mM1 sM1
theorem qAll (fa:Bool) (ea:List PV) (fb:Bool) (eb:List PV) (f:Bool) (ws:List PV) (fd:Bool) (ed:List PV) (d:Int):Ah Tryz.prog TL0 100 43 [.agg [.Ac fa 120 ea,.Ac fb 124 eb,.Ac f 44 ws,.Ac fd 68 ed],iv d] =
 bif pM1 (lM1 d 0 0 f ws (ws.length:Int) 0 fa ea fb eb f ws fd ed true []) then bif ([]++alL ws d 0 ((ws.length:Int)-0).toNat).length==0+(alL ws d 0 ((ws.length:Int)-0).toNat).length then
  some (.Ac false 81 ((([]++alL ws d 0 ((ws.length:Int)-0).toNat).drop 0).take (0+(alL ws d 0 ((ws.length:Int)-0).toNat).length))) else none else none:=by kernel_rfl
theorem qAll' (fa:Bool) (ea:List PV) (fb:Bool) (eb:List PV) (f:Bool) (ws:List PV) (fd:Bool) (ed:List PV) (d:Int) (h:okC ws=true):Ah Tryz.prog TL0 100 43 [.agg [.Ac fa 120 ea,.Ac fb 124 eb,.Ac f 44 ws,.Ac fd 68 ed],iv d]=some (.Ac false 81 (alL ws d 0 ws.length)):=by
 rw[qAll,show pM1 (lM1 d 0 0 f ws (ws.length:Int) 0 fa ea fb eb f ws fd ed true [])=true by simp only[pM1,Bool.and_eq_true,decide_eq_true_eq,same_iff]; exact ⟨⟨⟨⟨⟨Int.le_refl _,trivial⟩,rfl⟩,trivial⟩,Int.le_refl _⟩,h,trivial⟩,
  show ((ws.length:Int)-0).toNat=ws.length by omega,List.nil_append,Nat.zero_add,beq_self_eq_true,List.drop_zero,List.take_length]
 rfl
def cAll:List PV->Option (DT PV)
 | [.agg [a,b,w,d],.val (.int .i64 id)]=>match lsM a b w d with | some ws=>some (.br (okC ws) (.leaf (.Ac false 81 (alL ws id 0 ws.length))) .no) | none=>none
 | _=>none
theorem eAll:Hx.Enters Tryz.prog 43:=(Aa okTL0 (n:=100) (qAll' true [] true [] true [] true [] 0 rfl)).1
theorem oAll (args:List PV) (d:DT PV) (r:PV) (h:cAll args=some d) (hr:d.run=some r):Ak Tryz.prog 43 args r:=by
 unfold cAll at h; split at h
 ·split at h
  ·rename_i ws hl
   cases h
   obtain ⟨h1,rfl⟩:=Aq hr
   exact lsM_weak hl fun fa ea fb eb f fd ed=>(Aa okTL0 (n:=100) (qAll' fa ea fb eb f ws fd ed _ h1)).2
  ·cases h
 ·cases h
end Go.Hn
/- Thin: the reference's Joined as a contract. -/
namespace Go.Hn
open Go.Hx Go.Hg Go.Proofs
noncomputable def NRa:Ad:=N2.addK 21
theorem okNRa:Ab Tryz.prog NRa.env:=ok2.addK 21
def stR (L:List PV) (lv:Int) (K:Int->Int->Int->Int->Int->Int->Option PV):Option PV:=
 bif (L.length:Int)==0 then K 0 0 0 0 0 0 else
  bif decide ((0:Int)<=0)&&decide ((0:Int)<(L.length:Int)) then bif decide (0<=lastI L)&&decide (lastI L<(L.length:Int)) then K (ptX L 0) (ptY L 0) lv (ptX L (lastI L).toNat) (ptY L (lastI L).toNat) lv else none else none
theorem qJr (i:Int) (f:Bool) (L:List PV) (lv:Int) (cs nm:ByteArray) (st:Bool) (wt ds:Int) (i':Int) (f':Bool) (M:List PV) (mv:Int) (cs' nm':ByteArray) (st':Bool) (wt' ds':Int):
 Ah Tryz.prog NRa 60 23 [wayv i f L lv cs nm st wt ds,wayv i' f' M mv cs' nm' st' wt' ds'] =
 bif (L.length:Int)==0 then some (bv false) else bif (M.length:Int)==0 then some (bv false) else
  stR L lv fun x0 x1 x2 y0 y1 y2=>stR M mv fun u0 u1 u2 v0 v1 v2 =>
   bif eqS x0 x1 x2 u0 u1 u2 then some (bv true) else bif eqS x0 x1 x2 v0 v1 v2 then some (bv true) else bif eqS y0 y1 y2 u0 u1 u2 then some (bv true) else some (bv (eqS y0 y1 y2 v0 v1 v2)):=by kernel_rfl
theorem stR_of {L:List PV} {lv:Int} (h:An L=true) (h0:((L.length:Int)==0)=false) (K:Int->Int->Int->Int->Int->Int->Option PV):stR L lv K=K (ptX L 0) (ptY L 0) lv (ptX L (lastI L).toNat) (ptY L (lastI L).toNat) lv:=by
 unfold stR
 rw[h0,cond_false,(stB_of h h0).1,(stB_of h h0).2]; rfl
theorem qJr' (i:Int) (f:Bool) (L:List PV) (lv:Int) (cs nm:ByteArray) (st:Bool) (wt ds:Int) (i':Int) (f':Bool) (M:List PV) (mv:Int) (cs' nm':ByteArray) (st':Bool) (wt' ds':Int) (h1:An L=true) (h2:An M=true):
 Ah Tryz.prog NRa 60 23 [wayv i f L lv cs nm st wt ds,wayv i' f' M mv cs' nm' st' wt' ds']=some (bv (jn L lv M mv)):=by
 rw[qJr]
 unfold jn
 cases e1:(L.length:Int)==0
 ·cases e2:(M.length:Int)==0
  ·rw[cond_false,cond_false,stR_of h1 e1,stR_of h2 e2]
   unfold jnB
   cases eqS (ptX L 0) (ptY L 0) lv (ptX M 0) (ptY M 0) mv <;> cases eqS (ptX L 0) (ptY L 0) lv (ptX M (lastI M).toNat) (ptY M (lastI M).toNat) mv <;> cases eqS (ptX L (lastI L).toNat) (ptY L (lastI L).toNat) lv (ptX M 0) (ptY M 0) mv <;> rfl
  ·rfl
 ·rfl
theorem eJr:Hx.Enters Tryz.prog 23:=(Aa okNRa (qJr' 0 false [] 0 .empty .empty false 0 0 0 false [] 0 .empty .empty false 0 0 rfl rfl)).1
theorem oJr (args:List PV) (d:DT PV) (r:PV) (h:cJnd args=some d) (hr:d.run=some r):Ak Tryz.prog 23 args r:=by
 unfold cJnd at h; split at h
 ·rename_i i f L lv cs nm st wt ds i' f' M mv cs' nm' st' wt' ds'
  cases h
  obtain ⟨h1,rfl⟩:=Aq hr
  rw[Bool.and_eq_true] at h1
  exact (Aa okNRa (qJr' i f L lv cs nm st wt ds i' f' M mv cs' nm' st' wt' ds' h1.1 h1.2)).2
 ·cases h
end Go.Hn
/- Thin: plain law of the reference's Labels: the least index of a way that is connected. -/
namespace Go.Hn
open Go.Hx Go.Hg Go.Proofs
theorem eqS_symm (x y l u v m:Int):eqS x y l u v m=eqS u v m x y l:=by
 rw[Bool.eq_iff_iff,eqS_iff,eqS_iff]; exact ⟨fun h=>h.symm,fun h=>h.symm⟩
theorem jnW_symm (e e':PV):jnW e e'=jnW e' e:=by
 unfold jnW jn jnB
 rw[eqS_symm (ptX (wL e) 0),eqS_symm (ptX (wL e) 0),eqS_symm (ptX (wL e) (lastI (wL e)).toNat),eqS_symm (ptX (wL e) (lastI (wL e)).toNat)]
 cases (wL e).length==0 <;> simp only[Bool.or_left_comm,Bool.and_left_comm]
theorem jnE_symm (ws:List PV) (i k:Int):jnE ws i k=jnE ws k i:=jnW_symm _ _
inductive Cn (ws:List PV) (i:Nat):Nat->Prop
 | refl:Cn ws i i
 | step {k m:Nat}:Cn ws i k->m<ws.length->jnE ws (k:Int) (m:Int)=true->Cn ws i m
theorem Cn.lt {ws:List PV} {i k:Nat} (h:Cn ws i k) (hi:i<ws.length):k<ws.length:=by cases h with | refl=>exact hi | step _ h _=>exact h
theorem Cn.trans {ws:List PV} {i k m:Nat} (h:Cn ws i k) (h':Cn ws k m):Cn ws i m:=by
 induction h' with
 | refl=>exact h
 | step _ h2 h3 ih=>exact .step ih h2 h3
theorem Cn.symm {ws:List PV} {i k:Nat} (hi:i<ws.length) (h:Cn ws i k):Cn ws k i:=by
 induction h with
 | refl=>exact .refl
 | @step k m h1 h2 h3 ih=>exact Cn.trans (.step .refl (h1.lt hi) (by rw[jnE_symm]; exact h3)) ih
theorem least_of {P:Nat->Prop}:∀ n,P n->∃ m,P m/\∀ k,P k->m<=k:=by
 intro n
 induction n using Nat.strongRecOn with
 | ind n ih =>
  intro h
  by_cases hx:∃ k,k<n/\P k
  ·obtain ⟨k,h1,h2⟩:=hx; exact ih k h1 h2
  ·exact ⟨n,h,fun k hk=>Nat.le_of_not_lt fun h1=>hx ⟨k,h1,hk⟩⟩
noncomputable def lea (ws:List PV) (i:Nat):Nat:=Classical.choose (least_of (P:=Cn ws i) i .refl)
theorem lea_cn (ws:List PV) (i:Nat):Cn ws i (lea ws i):=(Classical.choose_spec (least_of (P:=Cn ws i) i .refl)).1
theorem lea_le (ws:List PV) (i k:Nat) (h:Cn ws i k):lea ws i<=k:=(Classical.choose_spec (least_of (P:=Cn ws i) i .refl)).2 k h
theorem lea_eq {ws:List PV} {i k:Nat} (hi:i<ws.length) (hk:k<ws.length):lea ws i=lea ws k ↔ Cn ws i k:=by
 constructor
 ·intro h
  exact (lea_cn ws i).trans (h ▸ (lea_cn ws k).symm hk)
 ·intro h
  exact Nat.le_antisymm (lea_le _ _ _ (h.trans (lea_cn ws k))) (lea_le _ _ _ ((h.symm hi).trans (lea_cn ws i)))
noncomputable def labL (ws:List PV):List PV:=(List.range ws.length).map fun i=>iv (lea ws i:Int)
theorem labL_len (ws:List PV):(labL ws).length=ws.length:=by simp[labL]
theorem labL_at {ws:List PV} {i:Nat} (h:i<ws.length):(labL ws)[i]? = some (iv (lea ws i:Int)):=by simp[labL,h]
abbrev lbN (es:List PV) (k:Int):Int:=((es.getD k.toNat .any).cellAt 0).getI
def lbK (ws:List PV) (i:Int):Int->Nat->Bool->List PV->Bool × List PV
 | _,0,c,es=>(c,es)
 | k,n+1,c,es=>bif decide (lbN es k<lbN es i)&&jnE ws i k then lbK ws i (k+1) n true (es.set i.toNat (iv (lbN es k))) else lbK ws i (k+1) n c es
def lbI (ws:List PV):Int->Nat->Bool->List PV->Bool × List PV
 | _,0,c,es=>(c,es)
 | i,n+1,c,es=>lbI ws (i+1) n (lbK ws i 0 ws.length c es).1 (lbK ws i 0 ws.length c es).2
theorem lbK_len (ws:List PV) (i:Int):∀ (n:Nat) (k:Int) (c:Bool) (es:List PV),(lbK ws i k n c es).2.length=es.length
 | 0,_,_,_=>rfl
 | n+1,k,c,es=>by
  unfold lbK
  cases decide (lbN es k<lbN es i)&&jnE ws i k
  ·exact lbK_len ws i n _ _ _
  ·rw[cond_true,lbK_len ws i n,List.length_set]
theorem lbI_len (ws:List PV):∀ (n:Nat) (i:Int) (c:Bool) (es:List PV),(lbI ws i n c es).2.length=es.length
 | 0,_,_,_=>rfl
 | n+1,i,c,es=>by unfold lbI; rw[lbI_len ws n,lbK_len]
def Vld (ws es:List PV):Prop:=es.length=ws.length/\∀ j,j<ws.length->∃ m:Nat,es[j]? = some (iv (m:Int))/\m<=j/\Cn ws j m
theorem Vld.at {ws es:List PV} (h:Vld ws es) {j:Nat} (hj:j<ws.length):∃ m:Nat,es[j]? = some (iv (m:Int))/\lbN es (j:Int)=(m:Int)/\m<=j/\Cn ws j m:=by
 obtain ⟨m,h1,h2,h3⟩:=h.2 j hj
 refine ⟨m,h1,?_,h2,h3⟩
 unfold lbN
 rw[List.getD_eq_getElem?_getD,Int.toNat_natCast,h1]; rfl
def sumL (es:List PV):Nat:=(es.map fun e=>(e.cellAt 0).getI.toNat).sum
theorem sumL_set:∀ (es:List PV) (i:Nat) (x:Int) (e:PV),es[i]? = some e->sumL (es.set i (iv x))+(e.cellAt 0).getI.toNat=sumL es+x.toNat
 | [],_,_,_,h=>by cases h
 | a::es,0,x,e,h=>by
  cases h
  simp only[sumL,List.set_cons_zero,List.map_cons,List.sum_cons]
  show x.toNat+_+_=_
  omega
 | a::es,i+1,x,e,h=>by
  have:=sumL_set es i x e (by simpa using h)
  simp only[sumL,List.set_cons_succ,List.map_cons,List.sum_cons] at this ⊢
  omega
theorem Vld.set {ws es:List PV} (h:Vld ws es) {i k:Nat} (hi:i<ws.length) (hk:k<ws.length) (hl:lbN es (k:Int)<lbN es (i:Int)) (hj:jnE ws (i:Int) (k:Int)=true):
  Vld ws (es.set i (iv (lbN es (k:Int))))/\sumL (es.set i (iv (lbN es (k:Int))))<sumL es:=by
 obtain ⟨a,a1,a2,a3,a4⟩:=h.at hi
 obtain ⟨b,b1,b2,b3,b4⟩:=h.at hk
 refine ⟨⟨by rw[List.length_set]; exact h.1,fun j hj2 => ?_⟩,?_⟩
 ·by_cases e:i=j
  ·subst e
   refine ⟨b,?_,by omega,(Cn.step .refl hk hj).trans b4⟩
   rw[List.getElem?_set,if_pos rfl,if_pos (by rw[h.1]; exact hi),b2]
  ·obtain ⟨m,m1,m2,m3⟩:=h.2 j hj2
   exact ⟨m,by rw[List.getElem?_set,if_neg e]; exact m1,m2,m3⟩
 ·have:=sumL_set es i (lbN es (k:Int)) _ a1
  rw[b2] at this ⊢
  have e1:((iv (a:Int)).cellAt 0).getI.toNat=a:=rfl
  rw[e1] at this
  rw[a2,b2] at hl
  omega
theorem lbK_of {ws:List PV} {i:Nat} (hi:i<ws.length):∀ (n k:Nat) (c:Bool) (es:List PV),k+n<=ws.length->Vld ws es->Vld ws (lbK ws (i:Int) (k:Int) n c es).2/\sumL (lbK ws (i:Int) (k:Int) n c es).2<=sumL es /\
  ((lbK ws (i:Int) (k:Int) n c es).1=true->c=true\/sumL (lbK ws (i:Int) (k:Int) n c es).2<sumL es) /\
  ((lbK ws (i:Int) (k:Int) n c es).1=false->c=false/\(lbK ws (i:Int) (k:Int) n c es).2=es/\∀ j:Nat,k<=j->j<k+n->¬ (lbN es (j:Int)<lbN es (i:Int)/\jnE ws (i:Int) (j:Int)=true))
 | 0,k,c,es,_,h=>⟨h,Nat.le_refl _,fun h=>.inl h,fun h=>⟨h,rfl,fun j h1 h2=>by omega⟩⟩
 | n+1,k,c,es,hk,h=>by
  unfold lbK
  rw[Int.toNat_natCast,show ((k:Int)+1)=((k+1:Nat):Int) by omega]
  cases hc:decide (lbN es (k:Int)<lbN es (i:Int))&&jnE ws (i:Int) (k:Int)
  ·rw[cond_false]
   obtain ⟨h1,h2,h3,h4⟩:=lbK_of hi n (k+1) c es (by omega) h
   refine ⟨h1,h2,h3,fun hf => ?_⟩
   obtain ⟨g1,g2,g3⟩:=h4 hf
   refine ⟨g1,g2,fun j j1 j2 => ?_⟩
   by_cases e:j=k
   ·subst e; rintro ⟨x,y⟩; rw[decide_eq_true x,y] at hc; cases hc
   ·exact g3 j (by omega) (by omega)
  ·rw[cond_true]
   simp only[Bool.and_eq_true,decide_eq_true_eq] at hc
   obtain ⟨v1,v2⟩:=h.set hi (by omega) hc.1 hc.2
   obtain ⟨h1,h2,h3,h4⟩:=lbK_of hi n (k+1) true _ (by omega) v1
   exact ⟨h1,by omega,fun _=>.inr (by omega),fun hf=>by cases (h4 hf).1⟩
theorem lbI_of {ws:List PV}:∀ (n i:Nat) (c:Bool) (es:List PV),i+n<=ws.length->Vld ws es->Vld ws (lbI ws (i:Int) n c es).2/\sumL (lbI ws (i:Int) n c es).2<=sumL es /\
  ((lbI ws (i:Int) n c es).1=true->c=true\/sumL (lbI ws (i:Int) n c es).2<sumL es) /\
  ((lbI ws (i:Int) n c es).1=false->c=false/\(lbI ws (i:Int) n c es).2=es/\∀ j:Nat,i<=j->j<i+n->∀ k:Nat,k<ws.length->¬ (lbN es (k:Int)<lbN es (j:Int)/\jnE ws (j:Int) (k:Int)=true))
 | 0,k,c,es,_,h=>⟨h,Nat.le_refl _,fun h=>.inl h,fun h=>⟨h,rfl,fun j h1 h2=>by omega⟩⟩
 | n+1,i,c,es,hk,h=>by
  unfold lbI
  rw[show ((i:Int)+1)=((i+1:Nat):Int) by omega]
  have ha:=lbK_of (i:=i) (by omega) ws.length 0 c es (by omega) h
  rw[show ((0:Nat):Int)=0 from rfl] at ha
  obtain ⟨a1,a2,a3,a4⟩:=ha
  obtain ⟨h1,h2,h3,h4⟩:=lbI_of n (i+1) (lbK ws (i:Int) 0 ws.length c es).1 _ (by omega) a1
  refine ⟨h1,Nat.le_trans h2 a2,fun ht => ?_,fun hf => ?_⟩
  ·rcases h3 ht with g | g
   ·rcases a3 g with g | g
    ·exact .inl g
    ·exact .inr (Nat.lt_of_le_of_lt h2 g)
   ·exact .inr (Nat.lt_of_lt_of_le g a2)
  ·obtain ⟨g1,g2,g3⟩:=h4 hf
   obtain ⟨b1,b2,b3⟩:=a4 g1
   have b2':(lbK ws (i:Int) 0 ws.length c es).2=es:=b2
   rw[b2'] at g2 g3
   refine ⟨b1,by rw[b2']; exact g2,fun j j1 j2 k k1 => ?_⟩
   by_cases e:j=i
   ·subst e; exact b3 k (Nat.zero_le _) (by omega)
   ·exact g3 j (by omega) (by omega) k k1
theorem stable_lab {ws es:List PV} (h:Vld ws es) (hs:∀ j:Nat,j<ws.length->∀ k:Nat,k<ws.length->¬ (lbN es (k:Int)<lbN es (j:Int)/\jnE ws (j:Int) (k:Int)=true)):es=labL ws:=by
 have hc:∀ i k:Nat,i<ws.length->Cn ws i k->lbN es (i:Int)=lbN es (k:Int):=fun i k hi hk=>by
  induction hk with
  | refl=>rfl
  | @step k m h1 h2 h3 ih =>
   have l1:=h1.lt hi
   have:=hs k l1 m h2
   have h4:=hs m h2 k l1
   rw[jnE_symm] at h4
   rw[h3] at this h4
   rw[ih]
   have n1:¬ lbN es (m:Int)<lbN es (k:Int):=fun x=>this ⟨x,rfl⟩
   have n2:¬ lbN es (k:Int)<lbN es (m:Int):=fun x=>h4 ⟨x,rfl⟩
   omega
 apply List.ext_getElem?
 intro j
 by_cases hj:j<ws.length
 ·obtain ⟨m,m1,m2,m3,m4⟩:=h.at hj
  rw[m1,labL_at hj]
  have c1:=lea_cn ws j
  obtain ⟨q,q1,q2,q3,q4⟩:=h.at (c1.lt hj)
  have e1:=hc j _ hj c1
  have l1:=lea_le ws j m m4
  rw[m2,q2] at e1
  have:m=lea ws j:=by omega
  rw[this]
 ·rw[List.getElem?_eq_none (by rw[h.1]; omega),List.getElem?_eq_none (by rw[labL_len]; omega)]
def rgI:Int->Nat->List PV
 | _,0=>[]
 | i,n+1=>iv i::rgI (i+1) n
theorem rgI_len:∀ (n:Nat) (i:Int),(rgI i n).length=n
 | 0,_=>rfl
 | n+1,i=>by rw[rgI,List.length_cons,rgI_len n]
theorem rgI_at:∀ (n:Nat) (i:Int) (j:Nat),j<n->(rgI i n)[j]? = some (iv (i+(j:Int)))
 | 0,_,_,h=>by omega
 | n+1,i,0,_=>by simp[rgI]
 | n+1,i,j+1,h=>by
  rw[rgI,List.getElem?_cons_succ,rgI_at n (i+1) j (by omega),show i+1+(j:Int)=i+((j+1:Nat):Int) by omega]
theorem vld_start (ws:List PV):Vld ws (rgI 0 ws.length):=⟨rgI_len ..,fun j hj=>⟨j,by rw[rgI_at _ _ _ hj,Int.zero_add],Nat.le_refl _,.refl⟩⟩
end Go.Hn
/- Thin: the reference's Labels: its loops, round by round. -/
namespace Go.Hn
open Go.Hx Go.Hg Go.Proofs
noncomputable def NRb:Ad:=(N2.Ag 23 cJnd).addN 64 3 [(3,3,1)]
theorem okNRb:Ab Tryz.prog NRb.env:=(ok2.Ag eJr oJr).addN 64 3 [(3,3,1)]
def shV1:Hx.S1:=⟨59,[(0,.Ac 44),(3,.sl 0),(4,I64)],[.many 3 1]⟩
abbrev lV1 (f:Bool) (ws:List PV) (n l:Nat) (i:Int) (nl:Bool) (es:List PV):LS:=([.l f ws,.n n,.n l,.i i],[.l nl es])
def ownI (os:List PV) (n l:Nat) (k:Option (PX × List PV × List Row)):Option (PX × List PV × List Row):=bif decide (os.length=n)&&decide (n=l)&&decide ((n+1)*8<=140737488355328) then k else none
noncomputable abbrev xV1 (f:Bool) (ws:List PV) (n l:Nat) (nl:Bool) (es:List PV):PX × List PV × List Row:=(.exit 0,tm 59 [(0,.Ac f 44 ws),(3,.sl 0 n 0 l)],(shV1.put (lV1 f ws 0 0 0 nl es)).2)
theorem qV1 (f:Bool) (ws:List PV) (n l:Nat) (i:Int) (nl:Bool) (es:List PV):Al Tryz.prog NRb 60 64 (Ao Tryz.f64 3) [0,3,4] [0,3] (shV1.put (lV1 f ws n l i nl es)).1 (shV1.put (lV1 f ws n l i nl es)).2 =
 bif decide (i<(ws.length:Int)) then ownI es n l (some (.normal,shV1.put (lV1 f ws (n+1) (n+1) (W (i+1)) (nl&&false) (es++[iv i]))))
 else some (xV1 f ws n l nl es):=by kernel_rfl
def shV2:Hx.S1:=⟨59,[(0,.Ac 44),(3,.sl 0),(5,.bool),(6,I64),(7,I64)],[.many 3 1]⟩
abbrev lV2 (f:Bool) (ws:List PV) (n l:Nat) (c:Bool) (i k:Int) (nl:Bool) (es:List PV):LS:=([.l f ws,.n n,.n l,.b c,.i i,.i k],[.l nl es])
abbrev lb0 (es:List PV) (k:Int):Int:=((es.getD (0+k.toNat) .any).cellAt 0).getI
noncomputable abbrev xV2 (f:Bool) (ws:List PV) (n l:Nat) (c:Bool) (i:Int) (nl:Bool) (es:List PV):PX × List PV × List Row:=(.exit 6,tm 59 [(0,.Ac f 44 ws),(3,.sl 0 n 0 l),(5,bv c),(6,iv i)],(shV2.put (lV2 f ws 0 0 false 0 0 nl es)).2)
def jnD (ws:List PV) (i k:Int) {α:Type} (x:Option α):Option α:=bif inr ws i then bif inr ws k then bif An (wL (ws.getD i.toNat .any))&&An (wL (ws.getD k.toNat .any)) then x else none else none else none
theorem jnD_of {ws:List PV} (h:okB ws=true) {i k:Int} (h1:0<=i) (h2:i<(ws.length:Int)) (h3:0<=k) (h4:k<(ws.length:Int)) {α:Type} (x:Option α):jnD ws i k x=x:=by
 unfold jnD
 rw[Am h1 h2,Am h3 h4,okB_at h h1 h2,okB_at h h3 h4]; rfl
def nlN (nl:Bool):Nat->Bool
 | 0=>nl
 | n+1=>nlN (nl&&false) n
def pV1:LS->Bool
 | ([.l _ ws,.n n,.n l,.i i],[.l _ es])=>decide (n=es.length)&&decide (l=n)&&decide (0<=i)&&decide ((n:Int)=i)&&decide (ws.length<=1000)
 | _=>false
noncomputable def fV1:LS->DT (PX × List PV × List Row)
 | ([.l f ws,.n n,.n _,.i i],[.l nl es])=>.leaf (xV1 f ws (n+((ws.length:Int)-i).toNat) (n+((ws.length:Int)-i).toNat) (nlN nl ((ws.length:Int)-i).toNat) (es++rgI i ((ws.length:Int)-i).toNat))
 | _=>.no
def mV1:LS->Nat
 | ([.l _ ws,.n _,.n _,.i i],[.l _ _])=>((ws.length:Int)-i).toNat
 | _=>0
theorem sV1:∀ s r,pV1 s=true->(fV1 s).run=some r->r.1 ≠ .normal/\(Al Tryz.prog NRb 60 64 (Ao Tryz.f64 3) [0,3,4] [0,3] (shV1.put s).1 (shV1.put s).2=some r \/
   ∃ s',Al Tryz.prog NRb 60 64 (Ao Tryz.f64 3) [0,3,4] [0,3] (shV1.put s).1 (shV1.put s).2=some (.normal,shV1.put s')/\pV1 s'=true/\mV1 s'<mV1 s/\(fV1 s').run=some r):=by
 intro t r hp hr
 unfold pV1 at hp; split at hp
 ·rename_i f ws n l i nl es
  simp only[Bool.and_eq_true,decide_eq_true_eq] at hp
  obtain ⟨⟨⟨⟨rfl,rfl⟩,h3⟩,h4⟩,h5⟩:=hp
  have hr':=(Option.some.inj hr).symm
  refine ⟨by rw[hr']; simp,?_⟩
  rw[show shV1.put ([.l f ws,.n es.length,.n es.length,.i i],[.l nl es])=shV1.put (lV1 f ws es.length es.length i nl es) from rfl,qV1]
  by_cases hi:i<(ws.length:Int)
  ·obtain ⟨q,hq⟩:∃ q,((ws.length:Int)-i).toNat=q+1:=⟨((ws.length:Int)-i).toNat-1,by omega⟩
   have hq2:((ws.length:Int)-(i+1)).toNat=q:=by omega
   rw[hq] at hr'
   have hroom:∀ k,ownI es es.length es.length k=k:=fun k=>by unfold ownI; simp only[decide_true,Bool.true_and]; rw[decide_eq_true (show (es.length+1)*8<=140737488355328 by omega)]; rfl
   rw[decide_eq_true hi,cond_true,W_id (n:=i+1) (by omega) (by omega),hroom]
   refine .inr ⟨lV1 f ws (es.length+1) (es.length+1) (i+1) (nl&&false) (es++[iv i]),rfl,by simp only[pV1,Bool.and_eq_true,decide_eq_true_eq,List.length_append,List.length_singleton]; exact ⟨⟨⟨⟨trivial,trivial⟩,by omega⟩,by omega⟩,h5⟩,by simp only[mV1]; omega,?_⟩
   rw[hr']
   simp only[fV1,hq2,nlN,rgI,List.append_assoc,List.singleton_append,show es.length+1+q=es.length+(q+1) by omega]
   rfl
  ·rw[decide_eq_false hi]
   rw[show ((ws.length:Int)-i).toNat=0 by omega] at hr'
   exact .inl (by rw[hr']; simp only[rgI,nlN,List.append_nil]; rfl)
 ·cases hp
noncomputable def NRc:Ad:=NRb.addW 64 3 [0,3,4] [] shV1 pV1 fV1
theorem okNRc:Ab Tryz.prog NRc.env:=
 okNRb.addW (n:=60) Tryz.func64 (show Tryz.f64.body=some (bod Tryz.f64) by kernel_rfl) (show (loops (bod Tryz.f64)).filter (fun b=>rid b==3)=[Ao Tryz.f64 3] by kernel_rfl) [0,3,4] [0,3] [] shV1 mV1 sV1
theorem qV2c (f:Bool) (ws:List PV) (n l:Nat) (c:Bool) (i k:Int) (nl:Bool) (es:List PV):Al Tryz.prog NRc 60 64 (Ao Tryz.f64 13) [0,3,5,6,7] [0,3,5,6] (shV2.put (lV2 f ws n l c i k nl es)).1 (shV2.put (lV2 f ws n l c i k nl es)).2 =
 bif decide (k<(ws.length:Int)) then ixR es n l k (ldR es n (ixR es n l i (ldR es n (bif decide (lb0 es k<lb0 es i) then
   jnD ws i k (bif jnW (ws.getD i.toNat .any) (ws.getD k.toNat .any) then ixR es n l k (ldR es n (ixR es n l i (stC es n (some (.normal,shV2.put (lV2 f ws n l true i (W (k+1)) nl (es.set (0+i.toNat) (iv (lb0 es k)))))))))
    else some (.normal,shV2.put (lV2 f ws n l c i (W (k+1)) nl es)))
   else some (.normal,shV2.put (lV2 f ws n l c i (W (k+1)) nl es))))))
 else some (xV2 f ws n l c i nl es):=by kernel_rfl
def pV2:LS->Bool
 | ([.l _ ws,.n n,.n l,.b _,.i i,.i k],[.l _ es])=>decide (n=es.length)&&decide (l=n)&&decide (ws.length=n)&&decide (0<=k)&&decide (0<=i)&&decide (i<(ws.length:Int))&&okB ws
 | _=>false
noncomputable def fV2:LS->DT (PX × List PV × List Row)
 | ([.l f ws,.n n,.n l,.b c,.i i,.i k],[.l nl es])=>.leaf (xV2 f ws n l (lbK ws i k ((ws.length:Int)-k).toNat c es).1 i nl (lbK ws i k ((ws.length:Int)-k).toNat c es).2)
 | _=>.no
def mV2:LS->Nat
 | ([.l _ ws,.n _,.n _,.b _,.i _,.i k],[.l _ _])=>((ws.length:Int)-k).toNat
 | _=>0
theorem sV2:∀ s r,pV2 s=true->(fV2 s).run=some r->r.1 ≠ .normal/\(Al Tryz.prog NRc 60 64 (Ao Tryz.f64 13) [0,3,5,6,7] [0,3,5,6] (shV2.put s).1 (shV2.put s).2=some r \/
   ∃ s',Al Tryz.prog NRc 60 64 (Ao Tryz.f64 13) [0,3,5,6,7] [0,3,5,6] (shV2.put s).1 (shV2.put s).2=some (.normal,shV2.put s')/\pV2 s'=true/\mV2 s'<mV2 s/\(fV2 s').run=some r):=by
 intro t r hp hr
 unfold pV2 at hp; split at hp
 ·rename_i f ws n l c i k nl es
  simp only[Bool.and_eq_true,decide_eq_true_eq] at hp
  obtain ⟨⟨⟨⟨⟨⟨rfl,rfl⟩,h3⟩,h4⟩,h5⟩,h6⟩,h7⟩:=hp
  have hr':=(Option.some.inj hr).symm
  refine ⟨by rw[hr']; simp,?_⟩
  rw[show shV2.put ([.l f ws,.n es.length,.n es.length,.b c,.i i,.i k],[.l nl es])=shV2.put (lV2 f ws es.length es.length c i k nl es) from rfl,qV2c]
  have hb:=okB_len h7
  by_cases hk:k<(ws.length:Int)
  ·have i1:∀ {α:Type} (x:Option α),ixR es es.length es.length k x=x:=fun x=>ixR_of rfl h4 (by omega)
   have i2:∀ {α:Type} (x:Option α),ixR es es.length es.length i x=x:=fun x=>ixR_of rfl h5 (by omega)
   have i3:∀ {α:Type} (x:Option α),ldR es es.length x=x:=fun x=>ldR_of rfl
   have i4:∀ {α:Type} (x:Option α),stC es es.length x=x:=fun x=>by unfold stC; rw[beq_self_eq_true]; rfl
   have i5:∀ {α:Type} (x:Option α),jnD ws i k x=x:=fun x=>jnD_of h7 h5 h6 h4 hk x
   rw[decide_eq_true hk,cond_true,W_id (n:=k+1) (by omega) (by omega)]
   simp only[i1,i2,i3,i4,i5]
   obtain ⟨m,hm⟩:∃ m,((ws.length:Int)-k).toNat=m+1:=⟨((ws.length:Int)-k).toNat-1,by omega⟩
   have hm2:((ws.length:Int)-(k+1)).toNat=m:=by omega
   rw[hm] at hr'
   simp only[lbK] at hr'
   have e1:lb0 es k=lbN es k:=by unfold lb0 lbN; rw[Nat.zero_add]
   have e2:lb0 es i=lbN es i:=by unfold lb0 lbN; rw[Nat.zero_add]
   have e3:jnW (ws.getD i.toNat .any) (ws.getD k.toNat .any)=jnE ws i k:=rfl
   rw[e1,e2,e3,Nat.zero_add]
   have nx:∀ c' es',es'.length=es.length->r=xV2 f ws es.length es.length (lbK ws i (k+1) m c' es').1 i nl (lbK ws i (k+1) m c' es').2 ->
     ∃ s',some (PX.normal,shV2.put (lV2 f ws es.length es.length c' i (k+1) nl es'))=some (PX.normal,shV2.put s')/\pV2 s'=true/\mV2 s'<mV2 ([.l f ws,.n es.length,.n es.length,.b c,.i i,.i k],[.l nl es])/\(fV2 s').run=some r:=fun c' es' hl hA=>by
    refine ⟨lV2 f ws es.length es.length c' i (k+1) nl es',rfl,by simp only[pV2,Bool.and_eq_true,decide_eq_true_eq]; exact ⟨⟨⟨⟨⟨⟨hl.symm,trivial⟩,h3⟩,by omega⟩,h5⟩,h6⟩,h7⟩,by simp only[mV2]; omega,?_⟩
    rw[hA]; simp only[fV2,hm2]; rfl
   cases hd:decide (lbN es k<lbN es i)
   ·rw[hd] at hr'
    exact .inr (nx c es rfl hr')
   ·rw[hd] at hr'
    cases hj:jnE ws i k
    ·rw[hj] at hr'
     exact .inr (nx c es rfl hr')
    ·rw[hj] at hr'
     exact .inr (nx true _ (List.length_set ..) hr')
  ·rw[decide_eq_false hk]
   rw[show ((ws.length:Int)-k).toNat=0 by omega] at hr'
   exact .inl (by rw[hr']; rfl)
 ·cases hp
noncomputable def NRd:Ad:=NRc.addW 64 13 [0,3,5,6,7] [] shV2 pV2 fV2
theorem okNRd:Ab Tryz.prog NRd.env:=
 okNRc.addW (n:=60) Tryz.func64 (show Tryz.f64.body=some (bod Tryz.f64) by kernel_rfl) (show (loops (bod Tryz.f64)).filter (fun b=>rid b==13)=[Ao Tryz.f64 13] by kernel_rfl) [0,3,5,6,7] [0,3,5,6] [] shV2 mV2 sV2
end Go.Hn
/- Thin: the reference's Labels as a contract. -/
namespace Go.Hn
open Go.Hx Go.Hg Go.Proofs
def shV3:Hx.S1:=⟨59,[(0,.Ac 44),(3,.sl 0),(5,.bool),(6,I64)],[.many 3 1]⟩
abbrev lV3 (f:Bool) (ws:List PV) (n l:Nat) (c:Bool) (i:Int) (nl:Bool) (es:List PV):LS:=([.l f ws,.n n,.n l,.b c,.i i],[.l nl es])
noncomputable abbrev xV3 (f:Bool) (ws:List PV) (n l:Nat) (c:Bool) (nl:Bool) (es:List PV):PX × List PV × List Row:=(.exit 4,tm 59 [(0,.Ac f 44 ws),(3,.sl 0 n 0 l),(5,bv c)],(shV3.put (lV3 f ws 0 0 false 0 nl es)).2)
theorem qV3 (f:Bool) (ws:List PV) (n l:Nat) (c:Bool) (i:Int) (nl:Bool) (es:List PV):Al Tryz.prog NRd 60 64 (Ao Tryz.f64 10) [0,3,5,6] [0,3,5] (shV3.put (lV3 f ws n l c i nl es)).1 (shV3.put (lV3 f ws n l c i nl es)).2 =
 bif decide (i<(ws.length:Int)) then bif pV2 (lV2 f ws n l c i 0 nl es) then some (.normal,shV3.put (lV3 f ws n l (lbK ws i 0 ((ws.length:Int)-0).toNat c es).1 (W (i+1)) nl (lbK ws i 0 ((ws.length:Int)-0).toNat c es).2)) else none
 else some (xV3 f ws n l c nl es):=by kernel_rfl
def pV3:LS->Bool
 | ([.l _ ws,.n n,.n l,.b _,.i i],[.l _ es])=>decide (n=es.length)&&decide (l=n)&&decide (ws.length=n)&&decide (0<=i)&&okB ws
 | _=>false
noncomputable def fV3:LS->DT (PX × List PV × List Row)
 | ([.l f ws,.n n,.n l,.b c,.i i],[.l nl es])=>.leaf (xV3 f ws n l (lbI ws i ((ws.length:Int)-i).toNat c es).1 nl (lbI ws i ((ws.length:Int)-i).toNat c es).2)
 | _=>.no
def mV3:LS->Nat
 | ([.l _ ws,.n _,.n _,.b _,.i i],[.l _ _])=>((ws.length:Int)-i).toNat
 | _=>0
theorem sV3:∀ s r,pV3 s=true->(fV3 s).run=some r->r.1 ≠ .normal/\(Al Tryz.prog NRd 60 64 (Ao Tryz.f64 10) [0,3,5,6] [0,3,5] (shV3.put s).1 (shV3.put s).2=some r \/
   ∃ s',Al Tryz.prog NRd 60 64 (Ao Tryz.f64 10) [0,3,5,6] [0,3,5] (shV3.put s).1 (shV3.put s).2=some (.normal,shV3.put s')/\pV3 s'=true/\mV3 s'<mV3 s/\(fV3 s').run=some r):=by
 intro t r hp hr
 unfold pV3 at hp; split at hp
 ·rename_i f ws n l c i nl es
  simp only[Bool.and_eq_true,decide_eq_true_eq] at hp
  obtain ⟨⟨⟨⟨rfl,rfl⟩,h3⟩,h5⟩,h7⟩:=hp
  have hr':=(Option.some.inj hr).symm
  refine ⟨by rw[hr']; simp,?_⟩
  rw[show shV3.put ([.l f ws,.n es.length,.n es.length,.b c,.i i],[.l nl es])=shV3.put (lV3 f ws es.length es.length c i nl es) from rfl,qV3]
  have hb:=okB_len h7
  by_cases hi:i<(ws.length:Int)
  ·rw[decide_eq_true hi,cond_true,W_id (n:=i+1) (by omega) (by omega)]
   rw[show pV2 (lV2 f ws es.length es.length c i 0 nl es)=true by simp only[pV2,Bool.and_eq_true,decide_eq_true_eq]; exact ⟨⟨⟨⟨⟨⟨trivial,trivial⟩,h3⟩,Int.le_refl _⟩,h5⟩,hi⟩,h7⟩,cond_true]
   obtain ⟨m,hm⟩:∃ m,((ws.length:Int)-i).toNat=m+1:=⟨((ws.length:Int)-i).toNat-1,by omega⟩
   have hm2:((ws.length:Int)-(i+1)).toNat=m:=by omega
   rw[hm] at hr'
   simp only[lbI] at hr'
   rw[show ((ws.length:Int)-0).toNat=ws.length by omega]
   refine .inr ⟨lV3 f ws es.length es.length (lbK ws i 0 ws.length c es).1 (i+1) nl (lbK ws i 0 ws.length c es).2,rfl,by
    simp only[pV3,Bool.and_eq_true,decide_eq_true_eq,lbK_len]; exact ⟨⟨⟨⟨trivial,trivial⟩,h3⟩,by omega⟩,h7⟩,by simp only[mV3]; omega,?_⟩
   rw[hr']; simp only[fV3,hm2]; rfl
  ·rw[decide_eq_false hi]
   rw[show ((ws.length:Int)-i).toNat=0 by omega] at hr'
   exact .inl (by rw[hr']; rfl)
 ·cases hp
noncomputable def NRe:Ad:=NRd.addW 64 10 [0,3,5,6] [] shV3 pV3 fV3
theorem okNRe:Ab Tryz.prog NRe.env:=
 okNRd.addW (n:=60) Tryz.func64 (show Tryz.f64.body=some (bod Tryz.f64) by kernel_rfl) (show (loops (bod Tryz.f64)).filter (fun b=>rid b==10)=[Ao Tryz.f64 10] by kernel_rfl) [0,3,5,6] [0,3,5] [] shV3 mV3 sV3
def shV4:Hx.S1:=⟨59,[(0,.Ac 44),(3,.sl 0),(5,.bool)],[.many 3 1]⟩
abbrev lV4 (f:Bool) (ws:List PV) (n l:Nat) (c:Bool) (nl:Bool) (es:List PV):LS:=([.l f ws,.n n,.n l,.b c],[.l nl es])
noncomputable abbrev xV4 (n l:Nat) (nl:Bool) (es:List PV):PX × List PV × List Row:=(.exit 2,tm 59 [(3,.sl 0 n 0 l)],(shV4.put (lV4 true [] 0 0 false nl es)).2)
theorem qV4 (f:Bool) (ws:List PV) (n l:Nat) (c:Bool) (nl:Bool) (es:List PV):Al Tryz.prog NRe 60 64 (Ao Tryz.f64 7) [0,3,5] [3] (shV4.put (lV4 f ws n l c nl es)).1 (shV4.put (lV4 f ws n l c nl es)).2 =
 bif c then bif pV3 (lV3 f ws n l false 0 nl es) then some (.normal,shV4.put (lV4 f ws n l (lbI ws 0 ((ws.length:Int)-0).toNat false es).1 nl (lbI ws 0 ((ws.length:Int)-0).toNat false es).2)) else none
 else some (xV4 n l nl es):=by kernel_rfl
noncomputable def okL (ws es:List PV) (c:Bool):Bool:=@decide (Vld ws es/\(c=true\/es=labL ws)) (Classical.propDecidable _)
noncomputable def pV4:LS->Bool
 | ([.l _ ws,.n n,.n l,.b c],[.l _ es])=>decide (n=es.length)&&decide (l=n)&&okB ws&&okL ws es c
 | _=>false
noncomputable def fV4:LS->DT (PX × List PV × List Row)
 | ([.l _ ws,.n n,.n l,.b _],[.l nl _])=>.leaf (xV4 n l nl (labL ws))
 | _=>.no
def mV4:LS->Nat
 | ([.l _ _,.n _,.n _,.b c],[.l _ es])=>sumL es+(bif c then 1 else 0)
 | _=>0
theorem sV4:∀ s r,pV4 s=true->(fV4 s).run=some r->r.1 ≠ .normal/\(Al Tryz.prog NRe 60 64 (Ao Tryz.f64 7) [0,3,5] [3] (shV4.put s).1 (shV4.put s).2=some r \/
   ∃ s',Al Tryz.prog NRe 60 64 (Ao Tryz.f64 7) [0,3,5] [3] (shV4.put s).1 (shV4.put s).2=some (.normal,shV4.put s')/\pV4 s'=true/\mV4 s'<mV4 s/\(fV4 s').run=some r):=by
 intro t r hp hr
 unfold pV4 at hp; split at hp
 ·rename_i f ws n l c nl es
  unfold okL at hp
  simp only[Bool.and_eq_true,decide_eq_true_eq] at hp
  obtain ⟨⟨⟨rfl,rfl⟩,h7⟩,hv,hc⟩:=hp
  have hr':=(Option.some.inj hr).symm
  refine ⟨by rw[hr']; simp,?_⟩
  rw[show shV4.put ([.l f ws,.n es.length,.n es.length,.b c],[.l nl es])=shV4.put (lV4 f ws es.length es.length c nl es) from rfl,qV4]
  have hb:=okB_len h7
  cases c with
  | true =>
   rw[cond_true,show pV3 (lV3 f ws es.length es.length false 0 nl es)=true by simp only[pV3,Bool.and_eq_true,decide_eq_true_eq]; exact ⟨⟨⟨⟨trivial,trivial⟩,hv.1.symm⟩,Int.le_refl _⟩,h7⟩,cond_true]
   rw[show ((ws.length:Int)-0).toNat=ws.length by omega]
   have ha:=lbI_of ws.length 0 false es (by omega) hv
   rw[show ((0:Nat):Int)=0 from rfl] at ha
   obtain ⟨a1,a2,a3,a4⟩:=ha
   refine .inr ⟨lV4 f ws es.length es.length (lbI ws 0 ws.length false es).1 nl (lbI ws 0 ws.length false es).2,rfl,?_,?_,?_⟩
   ·unfold pV4 okL
    simp only[Bool.and_eq_true,decide_eq_true_eq,lbI_len]
    refine ⟨⟨⟨trivial,trivial⟩,h7⟩,a1,?_⟩
    cases hd:(lbI ws 0 ws.length false es).1
    ·obtain ⟨_,b2,b3⟩:=a4 hd
     refine .inr ?_
     rw[b2]
     exact stable_lab hv fun j hj k hk=>b3 j (Nat.zero_le _) (by omega) k hk
    ·exact .inl rfl
   ·simp only[mV4,cond_true]
    cases hd:(lbI ws 0 ws.length false es).1
    ·rw[cond_false]; omega
    ·rcases a3 hd with h | h
     ·cases h
     ·rw[cond_true]; omega
   ·rw[hr']; rfl
  | false =>
   rcases hc with h | h
   ·cases h
   ·exact .inl (by rw[hr',cond_false,<- h])
 ·cases hp
noncomputable def NRf:Ad:=NRe.addW 64 7 [0,3,5] [] shV4 pV4 fV4
theorem okNRf:Ab Tryz.prog NRf.env:=
 okNRe.addW (n:=60) Tryz.func64 (show Tryz.f64.body=some (bod Tryz.f64) by kernel_rfl) (show (loops (bod Tryz.f64)).filter (fun b=>rid b==7)=[Ao Tryz.f64 7] by kernel_rfl) [0,3,5] [3] [] shV4 mV4 sV4
abbrev nLb (ws:List PV):Nat:=0+((ws.length:Int)-0).toNat
theorem qLab0 (f:Bool) (ws:List PV):Ah Tryz.prog NRf 60 64 [.Ac f 44 ws] =
 bif pV1 (lV1 f ws 0 0 0 true []) then bif pV4 (lV4 f ws (nLb ws) (nLb ws) true (nlN true ((ws.length:Int)-0).toNat) ([]++rgI 0 ((ws.length:Int)-0).toNat)) then
  bif (labL ws).length==nLb ws then some (.Ac false 3 (((labL ws).drop 0).take (nLb ws))) else none else none else none:=by kernel_rfl
theorem qLab (f:Bool) {ws:List PV} (h:(okB ws&&decide (ws.length<=1000))=true):Ah Tryz.prog NRf 60 64 [.Ac f 44 ws]=some (.Ac false 3 (labL ws)):=by
 rw[Bool.and_eq_true,decide_eq_true_eq] at h
 have hn:nLb ws=ws.length:=by unfold nLb; omega
 have hn2:((ws.length:Int)-0).toNat=ws.length:=by omega
 rw[qLab0,hn,hn2,List.nil_append,show pV1 (lV1 f ws 0 0 0 true [])=true by simp only[pV1,Bool.and_eq_true,decide_eq_true_eq]; exact ⟨⟨⟨⟨rfl,trivial⟩,Int.le_refl _⟩,rfl⟩,h.2⟩,cond_true,
  show pV4 (lV4 f ws ws.length ws.length true (nlN true ws.length) (rgI 0 ws.length))=true by unfold pV4 okL; simp only[Bool.and_eq_true,decide_eq_true_eq,rgI_len]; exact ⟨⟨⟨trivial,trivial⟩,h.1⟩,vld_start ws,.inl trivial⟩,cond_true,
  show ((labL ws).length==ws.length)=true by rw[labL_len,beq_self_eq_true],cond_true,List.drop_zero,show List.take ws.length (labL ws)=labL ws from List.take_of_length_le (by rw[labL_len]; exact Nat.le_refl _)]
noncomputable def cLab:List PV->Option (DT PV)
 | [.Ac _ 44 ws]=>some (.br (okB ws&&decide (ws.length<=1000)) (.leaf (.Ac false 3 (labL ws))) .no)
 | _=>none
theorem eLab:Hx.Enters Tryz.prog 64:=(Aa okNRf (qLab false (ws:=[]) rfl)).1
theorem oLab (args:List PV) (d:DT PV) (r:PV) (h:cLab args=some d) (hr:d.run=some r):Ak Tryz.prog 64 args r:=by
 unfold cLab at h; split at h
 ·cases h
  obtain ⟨h1,rfl⟩:=Aq hr
  exact (Aa okNRf (qLab _ h1)).2
 ·cases h
end Go.Hn
/- Thin: the reference's Without as a contract (printed by genwo.py 6). -/
namespace Go.Hn
open Go.Hx Go.Hg Go.Proofs
theorem qWi10 (f:Bool) (e0:PV):Ah Tryz.prog {} 60 84 [.Ac f 44 [e0],iv 0]=some (.Ac false 44 []):=by kernel_rfl
theorem qWi20 (f:Bool) (e0 e1:PV):Ah Tryz.prog {} 60 84 [.Ac f 44 [e0,e1],iv 0]=some (.Ac false 44 [e1]):=by kernel_rfl
theorem qWi21 (f:Bool) (e0 e1:PV):Ah Tryz.prog {} 60 84 [.Ac f 44 [e0,e1],iv 1]=some (.Ac false 44 [e0]):=by kernel_rfl
theorem qWi30 (f:Bool) (e0 e1 e2:PV):Ah Tryz.prog {} 60 84 [.Ac f 44 [e0,e1,e2],iv 0]=some (.Ac false 44 [e1,e2]):=by kernel_rfl
theorem qWi31 (f:Bool) (e0 e1 e2:PV):Ah Tryz.prog {} 60 84 [.Ac f 44 [e0,e1,e2],iv 1]=some (.Ac false 44 [e0,e2]):=by kernel_rfl
theorem qWi32 (f:Bool) (e0 e1 e2:PV):Ah Tryz.prog {} 60 84 [.Ac f 44 [e0,e1,e2],iv 2]=some (.Ac false 44 [e0,e1]):=by kernel_rfl
theorem qWi40 (f:Bool) (e0 e1 e2 e3:PV):Ah Tryz.prog {} 60 84 [.Ac f 44 [e0,e1,e2,e3],iv 0]=some (.Ac false 44 [e1,e2,e3]):=by kernel_rfl
theorem qWi41 (f:Bool) (e0 e1 e2 e3:PV):Ah Tryz.prog {} 60 84 [.Ac f 44 [e0,e1,e2,e3],iv 1]=some (.Ac false 44 [e0,e2,e3]):=by kernel_rfl
theorem qWi42 (f:Bool) (e0 e1 e2 e3:PV):Ah Tryz.prog {} 60 84 [.Ac f 44 [e0,e1,e2,e3],iv 2]=some (.Ac false 44 [e0,e1,e3]):=by kernel_rfl
theorem qWi43 (f:Bool) (e0 e1 e2 e3:PV):Ah Tryz.prog {} 60 84 [.Ac f 44 [e0,e1,e2,e3],iv 3]=some (.Ac false 44 [e0,e1,e2]):=by kernel_rfl
theorem qWi50 (f:Bool) (e0 e1 e2 e3 e4:PV):Ah Tryz.prog {} 60 84 [.Ac f 44 [e0,e1,e2,e3,e4],iv 0]=some (.Ac false 44 [e1,e2,e3,e4]):=by kernel_rfl
theorem qWi51 (f:Bool) (e0 e1 e2 e3 e4:PV):Ah Tryz.prog {} 60 84 [.Ac f 44 [e0,e1,e2,e3,e4],iv 1]=some (.Ac false 44 [e0,e2,e3,e4]):=by kernel_rfl
theorem qWi52 (f:Bool) (e0 e1 e2 e3 e4:PV):Ah Tryz.prog {} 60 84 [.Ac f 44 [e0,e1,e2,e3,e4],iv 2]=some (.Ac false 44 [e0,e1,e3,e4]):=by kernel_rfl
theorem qWi53 (f:Bool) (e0 e1 e2 e3 e4:PV):Ah Tryz.prog {} 60 84 [.Ac f 44 [e0,e1,e2,e3,e4],iv 3]=some (.Ac false 44 [e0,e1,e2,e4]):=by kernel_rfl
theorem qWi54 (f:Bool) (e0 e1 e2 e3 e4:PV):Ah Tryz.prog {} 60 84 [.Ac f 44 [e0,e1,e2,e3,e4],iv 4]=some (.Ac false 44 [e0,e1,e2,e3]):=by kernel_rfl
theorem qWi60 (f:Bool) (e0 e1 e2 e3 e4 e5:PV):Ah Tryz.prog {} 60 84 [.Ac f 44 [e0,e1,e2,e3,e4,e5],iv 0]=some (.Ac false 44 [e1,e2,e3,e4,e5]):=by kernel_rfl
theorem qWi61 (f:Bool) (e0 e1 e2 e3 e4 e5:PV):Ah Tryz.prog {} 60 84 [.Ac f 44 [e0,e1,e2,e3,e4,e5],iv 1]=some (.Ac false 44 [e0,e2,e3,e4,e5]):=by kernel_rfl
theorem qWi62 (f:Bool) (e0 e1 e2 e3 e4 e5:PV):Ah Tryz.prog {} 60 84 [.Ac f 44 [e0,e1,e2,e3,e4,e5],iv 2]=some (.Ac false 44 [e0,e1,e3,e4,e5]):=by kernel_rfl
theorem qWi63 (f:Bool) (e0 e1 e2 e3 e4 e5:PV):Ah Tryz.prog {} 60 84 [.Ac f 44 [e0,e1,e2,e3,e4,e5],iv 3]=some (.Ac false 44 [e0,e1,e2,e4,e5]):=by kernel_rfl
theorem qWi64 (f:Bool) (e0 e1 e2 e3 e4 e5:PV):Ah Tryz.prog {} 60 84 [.Ac f 44 [e0,e1,e2,e3,e4,e5],iv 4]=some (.Ac false 44 [e0,e1,e2,e3,e5]):=by kernel_rfl
theorem qWi65 (f:Bool) (e0 e1 e2 e3 e4 e5:PV):Ah Tryz.prog {} 60 84 [.Ac f 44 [e0,e1,e2,e3,e4,e5],iv 5]=some (.Ac false 44 [e0,e1,e2,e3,e4]):=by kernel_rfl
theorem qWi (f:Bool):∀ (ws:List PV) (k:Nat),ws.length<=6->k<ws.length->Ah Tryz.prog {} 60 84 [.Ac f 44 ws,iv (k:Int)]=some (.Ac false 44 (ws.eraseIdx k))
 | [e0],0,_,_=>qWi10 f e0
 | [e0,e1],0,_,_=>qWi20 f e0 e1
 | [e0,e1],1,_,_=>qWi21 f e0 e1
 | [e0,e1,e2],0,_,_=>qWi30 f e0 e1 e2
 | [e0,e1,e2],1,_,_=>qWi31 f e0 e1 e2
 | [e0,e1,e2],2,_,_=>qWi32 f e0 e1 e2
 | [e0,e1,e2,e3],0,_,_=>qWi40 f e0 e1 e2 e3
 | [e0,e1,e2,e3],1,_,_=>qWi41 f e0 e1 e2 e3
 | [e0,e1,e2,e3],2,_,_=>qWi42 f e0 e1 e2 e3
 | [e0,e1,e2,e3],3,_,_=>qWi43 f e0 e1 e2 e3
 | [e0,e1,e2,e3,e4],0,_,_=>qWi50 f e0 e1 e2 e3 e4
 | [e0,e1,e2,e3,e4],1,_,_=>qWi51 f e0 e1 e2 e3 e4
 | [e0,e1,e2,e3,e4],2,_,_=>qWi52 f e0 e1 e2 e3 e4
 | [e0,e1,e2,e3,e4],3,_,_=>qWi53 f e0 e1 e2 e3 e4
 | [e0,e1,e2,e3,e4],4,_,_=>qWi54 f e0 e1 e2 e3 e4
 | [e0,e1,e2,e3,e4,e5],0,_,_=>qWi60 f e0 e1 e2 e3 e4 e5
 | [e0,e1,e2,e3,e4,e5],1,_,_=>qWi61 f e0 e1 e2 e3 e4 e5
 | [e0,e1,e2,e3,e4,e5],2,_,_=>qWi62 f e0 e1 e2 e3 e4 e5
 | [e0,e1,e2,e3,e4,e5],3,_,_=>qWi63 f e0 e1 e2 e3 e4 e5
 | [e0,e1,e2,e3,e4,e5],4,_,_=>qWi64 f e0 e1 e2 e3 e4 e5
 | [e0,e1,e2,e3,e4,e5],5,_,_=>qWi65 f e0 e1 e2 e3 e4 e5
 | [],_,_,h=>by simp at h
 | [_],k+1,_,h=>by simp only[List.length_cons,List.length_nil] at h; omega
 | [_,_],k+2,_,h=>by simp only[List.length_cons,List.length_nil] at h; omega
 | [_,_,_],k+3,_,h=>by simp only[List.length_cons,List.length_nil] at h; omega
 | [_,_,_,_],k+4,_,h=>by simp only[List.length_cons,List.length_nil] at h; omega
 | [_,_,_,_,_],k+5,_,h=>by simp only[List.length_cons,List.length_nil] at h; omega
 | [_,_,_,_,_,_],k+6,_,h=>by simp only[List.length_cons,List.length_nil] at h; omega
 | _::_::_::_::_::_::_::_,_,h,_=>by simp only[List.length_cons] at h; omega
def okWo (ws:List PV) (a:Int):Bool:=decide (ws.length<=6)&&(decide (0<=a)&&decide (a<(ws.length:Int)))
def cWo2:List PV->Option (DT PV)
 | [.Ac _ 44 ws,.val (.int .i64 a)]=>some (.br (okWo ws a) (.leaf (.Ac false 44 (ws.eraseIdx a.toNat))) .no)
 | _=>none
theorem eWo2:Hx.Enters Tryz.prog 84:=(Aa Af (n:=60) (qWi10 false .any)).1
theorem oWo2 (args:List PV) (d:DT PV) (r:PV) (h:cWo2 args=some d) (hr:d.run=some r):Ak Tryz.prog 84 args r:=by
 unfold cWo2 at h; split at h
 ·rename_i f ws a
  cases h
  obtain ⟨h1,rfl⟩:=Aq hr
  unfold okWo at h1
  simp only[Bool.and_eq_true,decide_eq_true_eq] at h1
  obtain ⟨h1,h2,h3⟩:=h1
  have:=(Aa Af (n:=60) (qWi f ws a.toNat h1 (by omega))).2
  rw[Int.toNat_of_nonneg h2] at this
  exact this
 ·cases h
end Go.Hn
/- Thin: the reference's Find as a contract. -/
namespace Go.Hn
open Go.Hx Go.Hg Go.Proofs
def shV5:Hx.S1:=⟨22,[(1,I64),(2,.ptr 0 1 0 0),(5,I64)],[.one 65 4 mapX]⟩
abbrev lV5 (id:Int) (i:Int) (fa:Bool) (es:List PV) (fb:Bool) (bs:List PV) (f:Bool) (ws:List PV) (fd:Bool) (ds:List PV):LS:=([.i id,.i i],[.l fa es,.l fb bs,.l f ws,.l fd ds])
noncomputable abbrev hV5 (fa:Bool) (es:List PV) (fb:Bool) (bs:List PV) (f:Bool) (ws:List PV) (fd:Bool) (ds:List PV):List Row:=(shV5.put (lV5 0 0 fa es fb bs f ws fd ds)).2
theorem qV5 (id:Int) (i:Int) (fa:Bool) (es:List PV) (fb:Bool) (bs:List PV) (f:Bool) (ws:List PV) (fd:Bool) (ds:List PV):Al Tryz.prog ({}:Ad) 60 85 (Ao Tryz.f85 2) [1,2,5] [4] (shV5.put (lV5 id i fa es fb bs f ws fd ds)).1 (shV5.put (lV5 id i fa es fb bs f ws fd ds)).2 =
 bif decide (i<(ws.length:Int)) then bif inr ws i then bif wN ws i==id then some (.ret,tm 22 [(4,iv i)],hV5 fa es fb bs f ws fd ds) else some (.normal,shV5.put (lV5 id (W (i+1)) fa es fb bs f ws fd ds)) else none
 else some (.exit 0,tm 22 [],hV5 fa es fb bs f ws fd ds):=by kernel_rfl
def pV5:LS->Bool
 | ([.i _,.i i],[.l _ _,.l _ _,.l _ ws,.l _ _])=>decide (0<=i)&&An ws
 | _=>false
noncomputable def fV5:LS->DT (PX × List PV × List Row)
 | ([.i id,.i i],[.l fa es,.l fb bs,.l f ws,.l fd ds])=>.br (anyI ws id i ((ws.length:Int)-i).toNat) (.leaf (.ret,tm 22 [(4,iv (fiW ws id i ((ws.length:Int)-i).toNat))],hV5 fa es fb bs f ws fd ds)) (.leaf (.exit 0,tm 22 [],hV5 fa es fb bs f ws fd ds))
 | _=>.no
def mV5:LS->Nat
 | ([.i _,.i i],[.l _ _,.l _ _,.l _ ws,.l _ _])=>((ws.length:Int)-i).toNat
 | _=>0
theorem sV5:∀ s r,pV5 s=true->(fV5 s).run=some r->r.1 ≠ .normal/\(Al Tryz.prog ({}:Ad) 60 85 (Ao Tryz.f85 2) [1,2,5] [4] (shV5.put s).1 (shV5.put s).2=some r \/
   ∃ s',Al Tryz.prog ({}:Ad) 60 85 (Ao Tryz.f85 2) [1,2,5] [4] (shV5.put s).1 (shV5.put s).2=some (.normal,shV5.put s')/\pV5 s'=true/\mV5 s'<mV5 s/\(fV5 s').run=some r):=by
 intro t r hp hr
 unfold pV5 at hp; split at hp
 ·rename_i id i fa es fb bs f ws fd ds
  simp only[Bool.and_eq_true,decide_eq_true_eq] at hp
  obtain ⟨h1,h3⟩:=hp
  have hr':=run_br2 hr
  refine ⟨by rw[hr']; cases anyI ws id i ((ws.length:Int)-i).toNat <;> simp,?_⟩
  rw[show shV5.put ([.i id,.i i],[.l fa es,.l fb bs,.l f ws,.l fd ds])=shV5.put (lV5 id i fa es fb bs f ws fd ds) from rfl,qV5]
  have hb:ws.length<=1000000:=h3
  by_cases hk:i<(ws.length:Int)
  ·rw[decide_eq_true hk,cond_true,Am h1 hk,cond_true,W_id (n:=i+1) (by omega) (by omega)]
   obtain ⟨m,hm⟩:∃ m,((ws.length:Int)-i).toNat=m+1:=⟨((ws.length:Int)-i).toNat-1,by omega⟩
   have hm2:((ws.length:Int)-(i+1)).toNat=m:=by omega
   rw[hm] at hr'
   simp only[anyI,fiW] at hr'
   cases he:wN ws i==id with
   | true=>rw[he] at hr'; exact .inl (by rw[hr']; rfl)
   | false =>
    rw[he] at hr'
    refine .inr ⟨lV5 id (i+1) fa es fb bs f ws fd ds,rfl,by simp only[pV5,Bool.and_eq_true,decide_eq_true_eq]; exact ⟨by omega,h3⟩,by simp only[mV5]; omega,?_⟩
    rw[hr']; simp only[fV5,hm2]; cases anyI ws id (i+1) m <;> rfl
  ·rw[decide_eq_false hk]
   rw[show ((ws.length:Int)-i).toNat=0 by omega] at hr'
   exact .inl (by rw[hr']; rfl)
 ·cases hp
noncomputable def NRg:Ad:=({}:Ad).addW 85 2 [1,2,5] [] shV5 pV5 fV5
theorem okNRg:Ab Tryz.prog NRg.env:=
 Af.addW (n:=60) Tryz.func85 (show Tryz.f85.body=some (bod Tryz.f85) by kernel_rfl) (show (loops (bod Tryz.f85)).filter (fun b=>rid b==2)=[Ao Tryz.f85 2] by kernel_rfl) [1,2,5] [4] [] shV5 mV5 sV5
theorem qFi0 (fa:Bool) (ea:List PV) (fb:Bool) (eb:List PV) (f:Bool) (ws:List PV) (fd:Bool) (ed:List PV) (id:Int):Ah Tryz.prog NRg 60 85 [.agg [.Ac fa 120 ea,.Ac fb 124 eb,.Ac f 44 ws,.Ac fd 68 ed],iv id] =
 bif pV5 (lV5 id 0 fa ea fb eb f ws fd ed) then bif anyI ws id 0 ((ws.length:Int)-0).toNat then some (iv (fiW ws id 0 ((ws.length:Int)-0).toNat)) else some (iv (-1)) else none:=by kernel_rfl
theorem qFi1 (fa:Bool) (ea:List PV) (fb:Bool) (eb:List PV) (f:Bool) (ws:List PV) (fd:Bool) (ed:List PV) (id:Int) (h:An ws=true):Ah Tryz.prog NRg 60 85 [.agg [.Ac fa 120 ea,.Ac fb 124 eb,.Ac f 44 ws,.Ac fd 68 ed],iv id]=some (iv (fiW ws id 0 ws.length)):=by
 rw[qFi0,show pV5 (lV5 id 0 fa ea fb eb f ws fd ed)=true by simp only[pV5,h]; rfl,cond_true,show ((ws.length:Int)-0).toNat=ws.length by omega]
 cases he:anyI ws id 0 ws.length
 ·rw[fiW_none _ _ he]; rfl
 ·rfl
def cFi2:List PV->Option (DT PV)
 | [.agg [a,b,w,d],.val (.int .i64 id)]=>(lsM a b w d).map fun ws=>.br (An ws) (.leaf (iv (fiW ws id 0 ws.length))) .no
 | _=>none
theorem eFi2:Hx.Enters Tryz.prog 85:=(Aa okNRg (qFi1 false [] false [] false [] false [] 0 rfl)).1
theorem oFi2 (args:List PV) (d:DT PV) (r:PV) (h:cFi2 args=some d) (hr:d.run=some r):Ak Tryz.prog 85 args r:=by
 unfold cFi2 at h; split at h
 ·cases hl:lsM _ _ _ _ with
  | none=>rw[hl] at h; cases h
  | some ws =>
   rw[hl] at h
   cases h
   obtain ⟨h1,rfl⟩:=Aq hr
   exact lsM_weak hl fun fa ea fb eb f fd ed=>(Aa okNRg (n:=60) (qFi1 fa ea fb eb f ws fd ed _ h1)).2
 ·cases h
end Go.Hn
/- Thin: the reference's own as a contract. -/
namespace Go.Hn
open Go.Hx Go.Hg Go.Proofs
noncomputable def NRh:Ad:=({}:Ad).addN 87 4 [(6,44,8)]
theorem okNRh:Ab Tryz.prog NRh.env:=Af.addN 87 4 [(6,44,8)]
def shV6:Hx.S1:=⟨40,[(0,.Ac 44),(1,I64),(6,.sl 0),(7,I64),(8,I64)],[.many 44 8]⟩
abbrev lV6 (f:Bool) (ws:List PV) (a:Int) (n l:Nat) (c i:Int) (nl:Bool) (os:List PV):LS:=([.l f ws,.i a,.n n,.n l,.i c,.i i],[.l nl os])
noncomputable abbrev xV6 (n l:Nat) (c:Int) (nl:Bool) (os:List PV):PX × List PV × List Row:=(.exit 0,tm 40 [(6,.sl 0 n 0 l),(7,iv c)],(shV6.put (lV6 true [] 0 0 0 0 0 nl os)).2)
theorem qV6 (f:Bool) (ws:List PV) (a:Int) (n l:Nat) (c i:Int) (nl:Bool) (os:List PV):Al Tryz.prog NRh 60 87 (Ao Tryz.f87 4) [0,1,6,7,8] [6,7] (shV6.put (lV6 f ws a n l c i nl os)).1 (shV6.put (lV6 f ws a n l c i nl os)).2 =
 bif decide (i<(ws.length:Int)) then bif inr ws i then bif inr ws a then bif wDs (ws.getD i.toNat .any) != wDs (ws.getD a.toNat .any) then some (.normal,shV6.put (lV6 f ws a n l c (W (i+1)) nl os))
  else bif decide (i<a) then bif inr ws i then ownN os n l (some (.normal,shV6.put (lV6 f ws a (n+1) (n+1) (W (c+1)) (W (i+1)) (nl&&false) (os++[nbE (wI (ws.getD i.toNat .any)) (ws.getD i.toNat .any)]))))
   else none else bif inr ws i then ownN os n l (some (.normal,shV6.put (lV6 f ws a (n+1) (n+1) c (W (i+1)) (nl&&false) (os++[nbE (wI (ws.getD i.toNat .any)) (ws.getD i.toNat .any)])))) else none else none else none
 else some (xV6 n l c nl os):=by kernel_rfl
def cnO (ws:List PV) (w:PV) (a:Int):Int->Nat->Int->Int
 | _,0,c=>c
 | i,n+1,c=>bif odB ws w i then cnO ws w a (i+1) n c else cnO ws w a (i+1) n (bif decide (i<a) then c+1 else c)
def pV6:LS->Bool
 | ([.l _ ws,.i a,.n n,.n l,.i c,.i i],[.l _ os])=>decide (0<=i)&&decide (ws.length<=1000)&&decide (n=os.length)&&decide (l=n)&&decide ((n:Int)<=i)&&(decide (0<=a)&&decide (a<(ws.length:Int)))&&(decide (0<=c)&&decide (c<=i))
 | _=>false
noncomputable def fV6:LS->DT (PX × List PV × List Row)
 | ([.l _ ws,.i a,.n n,.n _,.i c,.i i],[.l nl os]) =>
  .leaf (xV6 (n+(owl ws (ws.getD a.toNat .any) i ((ws.length:Int)-i).toNat).length) (n+(owl ws (ws.getD a.toNat .any) i ((ws.length:Int)-i).toNat).length) (cnO ws (ws.getD a.toNat .any) a i ((ws.length:Int)-i).toNat c)
   (nl&&(owl ws (ws.getD a.toNat .any) i ((ws.length:Int)-i).toNat).isEmpty) (os++owl ws (ws.getD a.toNat .any) i ((ws.length:Int)-i).toNat))
 | _=>.no
def mV6:LS->Nat
 | ([.l _ ws,.i _,.n _,.n _,.i _,.i i],[.l _ _])=>((ws.length:Int)-i).toNat
 | _=>0
theorem sV6:∀ s r,pV6 s=true->(fV6 s).run=some r->r.1 ≠ .normal/\(Al Tryz.prog NRh 60 87 (Ao Tryz.f87 4) [0,1,6,7,8] [6,7] (shV6.put s).1 (shV6.put s).2=some r \/
   ∃ s',Al Tryz.prog NRh 60 87 (Ao Tryz.f87 4) [0,1,6,7,8] [6,7] (shV6.put s).1 (shV6.put s).2=some (.normal,shV6.put s')/\pV6 s'=true/\mV6 s'<mV6 s/\(fV6 s').run=some r):=by
 intro t r hp hr
 unfold pV6 at hp; split at hp
 ·rename_i f ws a n l c i nl os
  simp only[Bool.and_eq_true,decide_eq_true_eq] at hp
  obtain ⟨⟨⟨⟨⟨⟨h1,h3⟩,rfl⟩,rfl⟩,h6⟩,h7,h8⟩,h9,h10⟩:=hp
  have hr':=(Option.some.inj hr).symm
  refine ⟨by rw[hr']; simp,?_⟩
  rw[show shV6.put ([.l f ws,.i a,.n os.length,.n os.length,.i c,.i i],[.l nl os])=shV6.put (lV6 f ws a os.length os.length c i nl os) from rfl,qV6]
  by_cases hi:i<(ws.length:Int)
  ·obtain ⟨q,hq⟩:∃ q,((ws.length:Int)-i).toNat=q+1:=⟨((ws.length:Int)-i).toNat-1,by omega⟩
   have hq2:((ws.length:Int)-(i+1)).toNat=q:=by omega
   rw[hq] at hr'
   have hroom:∀ k,ownN os os.length os.length k=k:=fun k=>by unfold ownN; simp only[decide_true,Bool.true_and]; rw[decide_eq_true (show (os.length+1)*96<=140737488355328 by omega)]; rfl
   rw[decide_eq_true hi,cond_true,Am h1 hi,Am h7 h8,cond_true,cond_true,W_id (n:=i+1) (by omega) (by omega),W_id (n:=c+1) (by omega) (by omega),hroom,hroom]
   simp only[owl,cnO] at hr'
   have e0:odB ws (ws.getD a.toNat .any) i=(wDs (ws.getD i.toNat .any) != wDs (ws.getD a.toNat .any)):=rfl
   rw[e0] at hr'
   have nx:∀ c' os' nl',0<=c'->c'<=i+1->(os'.length:Int)<=i+1->r=xV6 (os'.length+(owl ws (ws.getD a.toNat .any) (i+1) q).length) (os'.length+(owl ws (ws.getD a.toNat .any) (i+1) q).length) (cnO ws (ws.getD a.toNat .any) a (i+1) q c') (nl'&&(owl ws (ws.getD a.toNat .any) (i+1) q).isEmpty) (os'++owl ws (ws.getD a.toNat .any) (i+1) q) ->
     ∃ s',some (PX.normal,shV6.put (lV6 f ws a os'.length os'.length c' (i+1) nl' os'))=some (PX.normal,shV6.put s')/\pV6 s'=true/\mV6 s'<mV6 ([.l f ws,.i a,.n os.length,.n os.length,.i c,.i i],[.l nl os])/\(fV6 s').run=some r:=fun c' os' nl' g1 g2 g3 hA=>by
    refine ⟨lV6 f ws a os'.length os'.length c' (i+1) nl' os',rfl,by simp only[pV6,Bool.and_eq_true,decide_eq_true_eq]; exact ⟨⟨⟨⟨⟨⟨by omega,h3⟩,trivial⟩,trivial⟩,g3⟩,h7,h8⟩,g1,g2⟩,by simp only[mV6]; omega,?_⟩
    rw[hA]; simp only[fV6,hq2]; rfl
   cases hd:(wDs (ws.getD i.toNat .any) != wDs (ws.getD a.toNat .any))
   ·rw[hd,cond_false,cond_false] at hr'
    have ha:∀ c',r=xV6 (os.length+(nbE (wI (ws.getD i.toNat .any)) (ws.getD i.toNat .any)::owl ws (ws.getD a.toNat .any) (i+1) q).length) (os.length+(nbE (wI (ws.getD i.toNat .any)) (ws.getD i.toNat .any)::owl ws (ws.getD a.toNat .any) (i+1) q).length) (cnO ws (ws.getD a.toNat .any) a (i+1) q c') (nl&&(nbE (wI (ws.getD i.toNat .any)) (ws.getD i.toNat .any)::owl ws (ws.getD a.toNat .any) (i+1) q).isEmpty) (os++nbE (wI (ws.getD i.toNat .any)) (ws.getD i.toNat .any)::owl ws (ws.getD a.toNat .any) (i+1) q) ->
      0<=c'->c'<=i+1->∃ s',some (PX.normal,shV6.put (lV6 f ws a (os.length+1) (os.length+1) c' (i+1) (nl&&false) (os++[nbE (wI (ws.getD i.toNat .any)) (ws.getD i.toNat .any)])))=some (PX.normal,shV6.put s')/\pV6 s'=true/\mV6 s'<mV6 ([.l f ws,.i a,.n os.length,.n os.length,.i c,.i i],[.l nl os])/\(fV6 s').run=some r:=fun c' hA g1 g2=>by
     have:=nx c' (os++[nbE (wI (ws.getD i.toNat .any)) (ws.getD i.toNat .any)]) (nl&&false) g1 g2 (by rw[List.length_append,List.length_singleton]; omega) (by
      rw[hA]
      simp only[List.length_append,List.length_cons,List.length_nil,List.append_assoc,List.cons_append,List.nil_append,List.isEmpty_cons,Bool.and_false,Bool.false_and,show os.length+(0+1)+(owl ws (ws.getD a.toNat .any) (i+1) q).length=os.length+((owl ws (ws.getD a.toNat .any) (i+1) q).length+1) by omega])
     rw[List.length_append,List.length_singleton] at this
     exact this
    by_cases hx:i<a
    ·rw[decide_eq_true hx,cond_true] at hr' ⊢
     exact .inr (ha _ hr' (by omega) (by omega))
    ·rw[decide_eq_false hx,cond_false] at hr' ⊢
     exact .inr (ha _ hr' (by omega) (by omega))
   ·rw[hd,cond_true,cond_true] at hr'
    exact .inr (nx c os nl h9 (by omega) (by omega) hr')
  ·rw[decide_eq_false hi]
   rw[show ((ws.length:Int)-i).toNat=0 by omega] at hr'
   exact .inl (by rw[hr']; simp only[owl,cnO,List.append_nil,List.length_nil,Nat.add_zero,List.isEmpty_nil,Bool.and_true]; rfl)
 ·cases hp
noncomputable def NRi:Ad:=NRh.addW 87 4 [0,1,6,7,8] [] shV6 pV6 fV6
theorem okNRi:Ab Tryz.prog NRi.env:=
 okNRh.addW (n:=60) Tryz.func87 (show Tryz.f87.body=some (bod Tryz.f87) by kernel_rfl) (show (loops (bod Tryz.f87)).filter (fun b=>rid b==4)=[Ao Tryz.f87 4] by kernel_rfl) [0,1,6,7,8] [6,7] [] shV6 mV6 sV6
abbrev owA (ws:List PV) (a:Int):List PV:=owl ws (ws.getD a.toNat .any) 0 ((ws.length:Int)-0).toNat
abbrev cnA (ws:List PV) (a:Int):Int:=cnO ws (ws.getD a.toNat .any) a 0 ((ws.length:Int)-0).toNat 0
noncomputable abbrev hOw (ws:List PV) (a:Int):List Row:=(xV6 (0+(owA ws a).length) (0+(owA ws a).length) (cnA ws a) (true&&(owA ws a).isEmpty) ([]++owA ws a)).2.2
abbrev tOw (ws:List PV) (a:Int):PV:=.tup [.sl 0 (0+(owA ws a).length) 0 (0+(owA ws a).length),iv (cnA ws a)]
theorem qOw0 (f:Bool) (ws:List PV) (a:Int):Ah Tryz.prog NRi 60 87 [.Ac f 44 ws,iv a] =
 bif pV6 (lV6 f ws a 0 0 0 0 true []) then bif mlt 0 (frz (hOw ws a) 0 (tOw ws a)) then some (frz (hOw ws a) 0 (tOw ws a)) else none else none:=by kernel_rfl
theorem frz_own (ws:List PV) (a:Int):frz (hOw ws a) 0 (tOw ws a)=.tup [.Ac false 44 (owA ws a),iv (cnA ws a)]:=by
 show PV.tup [if ((true&&(([]++owA ws a).length==0+(owA ws a).length))=true) then PV.Ac false 44 ((([]++owA ws a).drop 0).take (0+(owA ws a).length)) else _,iv (cnA ws a)]=_
 rw[List.nil_append,Nat.zero_add,beq_self_eq_true,Bool.and_true,if_pos rfl,List.drop_zero,List.take_length]
theorem qOw (f:Bool) {ws:List PV} {a:Int} (h:(decide (ws.length<=1000)&&(decide (0<=a)&&decide (a<(ws.length:Int))))=true):Ah Tryz.prog NRi 60 87 [.Ac f 44 ws,iv a]=some (.tup [.Ac false 44 (owA ws a),iv (cnA ws a)]):=by
 simp only[Bool.and_eq_true,decide_eq_true_eq] at h
 rw[qOw0,frz_own,show pV6 (lV6 f ws a 0 0 0 0 true [])=true by simp only[pV6,Bool.and_eq_true,decide_eq_true_eq]; exact ⟨⟨⟨⟨⟨⟨Int.le_refl _,h.1⟩,by trivial⟩,by trivial⟩,Int.le_refl _⟩,h.2.1,h.2.2⟩,Int.le_refl _,Int.le_refl _⟩]
 rfl
def cOw:List PV->Option (DT PV)
 | [.Ac _ 44 ws,.val (.int .i64 a)]=>some (.br (decide (ws.length<=1000)&&(decide (0<=a)&&decide (a<(ws.length:Int)))) (.leaf (.tup [.Ac false 44 (owA ws a),iv (cnA ws a)])) .no)
 | _=>none
theorem eOw:Hx.Enters Tryz.prog 87:=(Aa okNRi (qOw false (ws:=[.any]) (a:=0) rfl)).1
theorem oOw (args:List PV) (d:DT PV) (r:PV) (h:cOw args=some d) (hr:d.run=some r):Ak Tryz.prog 87 args r:=by
 unfold cOw at h; split at h
 ·cases h
  obtain ⟨h1,rfl⟩:=Aq hr
  exact (Aa okNRi (qOw _ h1)).2
 ·cases h
end Go.Hn
/- Thin: the reference's breaks: its loops. -/
namespace Go.Hn
open Go.Hx Go.Hg Go.Proofs
noncomputable def NRj:Ad:=(({}:Ad).Ag 64 cLab).Ag 84 cWo2
theorem okNRj:Ab Tryz.prog NRj.env:=(Af.Ag eLab oLab).Ag eWo2 oWo2
def shV7:Hx.S1:=⟨62,[(1,I64),(5,.Ac 3),(6,.Ac 44),(7,.Ac 3),(8,I64),(9,I64)],[]⟩
abbrev lV7 (a:Int) (f:Bool) (A:List PV) (g:Bool) (os:List PV) (h:Bool) (B:List PV) (i k:Int):LS:=([.i a,.l f A,.l g os,.l h B,.i i,.i k],[])
def brQ (A B:List PV) (i k x y:Int) {α:Type} (R N:Option α):Option α:=
 bif inr A x then bif inr A y then bif lbN A x==lbN A y then bif inr B i then bif inr B k then bif lbN B i != lbN B k then R else N else none else none else N else none else none
noncomputable abbrev rV7 (a:Int) (f:Bool) (A:List PV) (g:Bool) (os:List PV) (h:Bool) (B:List PV) (i:Int):PX × List PV × List Row:=(.ret,tm 62 [(1,iv a),(4,bv true),(5,.Ac f 3 A),(6,.Ac g 44 os),(7,.Ac h 3 B),(8,iv i)],[])
noncomputable abbrev xV7 (a:Int) (f:Bool) (A:List PV) (g:Bool) (os:List PV) (h:Bool) (B:List PV) (i:Int):PX × List PV × List Row:=(.exit 2,tm 62 [(1,iv a),(5,.Ac f 3 A),(6,.Ac g 44 os),(7,.Ac h 3 B),(8,iv i)],[])
theorem qV7 (a:Int) (f:Bool) (A:List PV) (g:Bool) (os:List PV) (h:Bool) (B:List PV) (i k:Int):Al Tryz.prog NRj 60 88 (Ao Tryz.f88 8) [1,5,6,7,8,9] [1,4,5,6,7,8] (shV7.put (lV7 a f A g os h B i k)).1 (shV7.put (lV7 a f A g os h B i k)).2 =
 bif decide (k<i) then
  bif decide (i ≥ a) then bif decide (k ≥ a) then brQ A B i k (W (i+1)) (W (k+1)) (some (rV7 a f A g os h B i)) (some (.normal,shV7.put (lV7 a f A g os h B i (W (k+1))))) else brQ A B i k (W (i+1)) k (some (rV7 a f A g os h B i)) (some (.normal,shV7.put (lV7 a f A g os h B i (W (k+1)))))
  else bif decide (k ≥ a) then brQ A B i k i (W (k+1)) (some (rV7 a f A g os h B i)) (some (.normal,shV7.put (lV7 a f A g os h B i (W (k+1))))) else brQ A B i k i k (some (rV7 a f A g os h B i)) (some (.normal,shV7.put (lV7 a f A g os h B i (W (k+1)))))
 else some (xV7 a f A g os h B i):=by kernel_rfl
def upI (i a:Int):Int:=bif decide (i ≥ a) then i+1 else i
def brC (a:Int) (A B:List PV) (i k:Int):Bool:=(lbN A (upI i a)==lbN A (upI k a))&&(lbN B i != lbN B k)
def rb8 (a:Int) (A B:List PV) (i:Int):Int->Nat->Bool
 | _,0=>false
 | k,n+1=>brC a A B i k||rb8 a A B i (k+1) n
def pV7:LS->Bool
 | ([.i a,.l _ A,.l _ os,.l _ B,.i i,.i k],[])=>decide (0<=k)&&(decide (0<=a)&&decide (a<=(B.length:Int)))&&decide (A.length=B.length+1)&&decide (os.length=B.length)&&decide (i<(B.length:Int))&&decide (B.length<=1000)
 | _=>false
noncomputable def fV7:LS->DT (PX × List PV × List Row)
 | ([.i a,.l f A,.l g os,.l h B,.i i,.i k],[])=>.br (rb8 a A B i k (i-k).toNat) (.leaf (rV7 a f A g os h B i)) (.leaf (xV7 a f A g os h B i))
 | _=>.no
def mV7:LS->Nat
 | ([.i _,.l _ _,.l _ _,.l _ _,.i i,.i k],[])=>(i-k).toNat
 | _=>0
theorem brQ_of {a:Int} {A B:List PV} {i k:Int} (h1:0<=k) (h2:k<i) (_h3:0<=a) (h4:A.length=B.length+1) (h5:i<(B.length:Int)) (h6:B.length<=1000) {α:Type} (R N:Option α):
  (bif decide (i ≥ a) then bif decide (k ≥ a) then brQ A B i k (W (i+1)) (W (k+1)) R N else brQ A B i k (W (i+1)) k R N
  else bif decide (k ≥ a) then brQ A B i k i (W (k+1)) R N else brQ A B i k i k R N)=bif brC a A B i k then R else N:=by
 have hq:∀ x y,0<=x->x<(A.length:Int)->0<=y->y<(A.length:Int)->brQ A B i k x y R N=bif ((lbN A x==lbN A y)&&(lbN B i != lbN B k)) then R else N:=fun x y g1 g2 g3 g4=>by
  unfold brQ
  rw[Am g1 g2,Am g3 g4,Am (by omega) h5,Am h1 (by omega)]
  cases lbN A x==lbN A y <;> rfl
 unfold brC upI
 rw[W_id (n:=i+1) (by omega) (by omega),W_id (n:=k+1) (by omega) (by omega)]
 by_cases c1:i ≥ a <;> by_cases c2:k ≥ a
 ·rw[decide_eq_true c1,decide_eq_true c2]; simp only[cond_true]; exact hq _ _ (by omega) (by omega) (by omega) (by omega)
 ·rw[decide_eq_true c1,decide_eq_false c2]; simp only[cond_true,cond_false]; exact hq _ _ (by omega) (by omega) (by omega) (by omega)
 ·rw[decide_eq_false c1,decide_eq_true c2]; simp only[cond_true,cond_false]; exact hq _ _ (by omega) (by omega) (by omega) (by omega)
 ·rw[decide_eq_false c1,decide_eq_false c2]; simp only[cond_false]; exact hq _ _ (by omega) (by omega) (by omega) (by omega)
theorem sV7:∀ s r,pV7 s=true->(fV7 s).run=some r->r.1 ≠ .normal/\(Al Tryz.prog NRj 60 88 (Ao Tryz.f88 8) [1,5,6,7,8,9] [1,4,5,6,7,8] (shV7.put s).1 (shV7.put s).2=some r \/
   ∃ s',Al Tryz.prog NRj 60 88 (Ao Tryz.f88 8) [1,5,6,7,8,9] [1,4,5,6,7,8] (shV7.put s).1 (shV7.put s).2=some (.normal,shV7.put s')/\pV7 s'=true/\mV7 s'<mV7 s/\(fV7 s').run=some r):=by
 intro t r hp hr
 unfold pV7 at hp; split at hp
 ·rename_i a f A g os h B i k
  simp only[Bool.and_eq_true,decide_eq_true_eq] at hp
  obtain ⟨⟨⟨⟨⟨h1,h2,h3⟩,h4⟩,h5⟩,h6⟩,h7⟩:=hp
  have hr':=run_br2 hr
  refine ⟨by rw[hr']; cases rb8 a A B i k (i-k).toNat <;> simp,?_⟩
  rw[show shV7.put ([.i a,.l f A,.l g os,.l h B,.i i,.i k],[])=shV7.put (lV7 a f A g os h B i k) from rfl,qV7]
  by_cases hk:k<i
  ·obtain ⟨q,hq⟩:∃ q,(i-k).toNat=q+1:=⟨(i-k).toNat-1,by omega⟩
   have hq2:(i-(k+1)).toNat=q:=by omega
   rw[hq] at hr'
   simp only[rb8] at hr'
   rw[decide_eq_true hk,cond_true,brQ_of h1 hk h2 h4 h6 h7]
   cases hc:brC a A B i k
   ·rw[hc] at hr'
    refine .inr ⟨lV7 a f A g os h B i (k+1),by rw[cond_false,W_id (n:=k+1) (by omega) (by omega)],by simp only[pV7,Bool.and_eq_true,decide_eq_true_eq]; exact ⟨⟨⟨⟨⟨by omega,h2,h3⟩,h4⟩,h5⟩,h6⟩,h7⟩,by simp only[mV7]; omega,?_⟩
    rw[hr']; simp only[fV7,hq2,Bool.false_or]; cases rb8 a A B i (k+1) q <;> rfl
   ·rw[hc] at hr'
    exact .inl (by rw[hr']; rfl)
  ·rw[decide_eq_false hk]
   rw[show (i-k).toNat=0 by omega] at hr'
   exact .inl (by rw[hr']; rfl)
 ·cases hp
noncomputable def NRk:Ad:=NRj.addW 88 8 [1,5,6,7,8,9] [] shV7 pV7 fV7
theorem okNRk:Ab Tryz.prog NRk.env:=
 okNRj.addW (n:=60) Tryz.func88 (show Tryz.f88.body=some (bod Tryz.f88) by kernel_rfl) (show (loops (bod Tryz.f88)).filter (fun b=>rid b==8)=[Ao Tryz.f88 8] by kernel_rfl) [1,5,6,7,8,9] [1,4,5,6,7,8] [] shV7 mV7 sV7
end Go.Hn
/- Thin: the reference's breaks as a contract. -/
namespace Go.Hn
open Go.Hx Go.Hg Go.Proofs
def shV8:Hx.S1:=⟨62,[(1,I64),(5,.Ac 3),(6,.Ac 44),(7,.Ac 3),(8,I64)],[]⟩
abbrev lV8 (a:Int) (f:Bool) (A:List PV) (g:Bool) (os:List PV) (h:Bool) (B:List PV) (i:Int):LS:=([.i a,.l f A,.l g os,.l h B,.i i],[])
theorem qV8 (a:Int) (f:Bool) (A:List PV) (g:Bool) (os:List PV) (h:Bool) (B:List PV) (i:Int):Al Tryz.prog NRk 60 88 (Ao Tryz.f88 5) [1,5,6,7,8] [4] (shV8.put (lV8 a f A g os h B i)).1 (shV8.put (lV8 a f A g os h B i)).2 =
 bif decide (i<(os.length:Int)) then bif pV7 (lV7 a f A g os h B i 0) then bif rb8 a A B i 0 (i-0).toNat then some (.ret,tm 62 [(4,bv true)],[]) else some (.normal,shV8.put (lV8 a f A g os h B (W (i+1)))) else none
 else some (.exit 0,tm 62 [],[]):=by kernel_rfl
def rb5 (a:Int) (A B:List PV):Int->Nat->Bool
 | _,0=>false
 | i,n+1=>rb8 a A B i 0 i.toNat||rb5 a A B (i+1) n
def pV8:LS->Bool
 | ([.i a,.l _ A,.l _ os,.l _ B,.i i],[])=>decide (0<=i)&&(decide (0<=a)&&decide (a<=(B.length:Int)))&&decide (A.length=B.length+1)&&decide (os.length=B.length)&&decide (B.length<=1000)
 | _=>false
noncomputable def fV8:LS->DT (PX × List PV × List Row)
 | ([.i a,.l _ A,.l _ _,.l _ B,.i i],[])=>.br (rb5 a A B i ((B.length:Int)-i).toNat) (.leaf (.ret,tm 62 [(4,bv true)],[])) (.leaf (.exit 0,tm 62 [],[]))
 | _=>.no
def mV8:LS->Nat
 | ([.i _,.l _ _,.l _ _,.l _ B,.i i],[])=>((B.length:Int)-i).toNat
 | _=>0
theorem sV8:∀ s r,pV8 s=true->(fV8 s).run=some r->r.1 ≠ .normal/\(Al Tryz.prog NRk 60 88 (Ao Tryz.f88 5) [1,5,6,7,8] [4] (shV8.put s).1 (shV8.put s).2=some r \/
   ∃ s',Al Tryz.prog NRk 60 88 (Ao Tryz.f88 5) [1,5,6,7,8] [4] (shV8.put s).1 (shV8.put s).2=some (.normal,shV8.put s')/\pV8 s'=true/\mV8 s'<mV8 s/\(fV8 s').run=some r):=by
 intro t r hp hr
 unfold pV8 at hp; split at hp
 ·rename_i a f A g os h B i
  simp only[Bool.and_eq_true,decide_eq_true_eq] at hp
  obtain ⟨⟨⟨⟨h1,h2,h3⟩,h4⟩,h5⟩,h7⟩:=hp
  have hr':=run_br2 hr
  refine ⟨by rw[hr']; cases rb5 a A B i ((B.length:Int)-i).toNat <;> simp,?_⟩
  rw[show shV8.put ([.i a,.l f A,.l g os,.l h B,.i i],[])=shV8.put (lV8 a f A g os h B i) from rfl,qV8]
  by_cases hk:i<(os.length:Int)
  ·obtain ⟨q,hq⟩:∃ q,((B.length:Int)-i).toNat=q+1:=⟨((B.length:Int)-i).toNat-1,by omega⟩
   have hq2:((B.length:Int)-(i+1)).toNat=q:=by omega
   rw[hq] at hr'
   simp only[rb5] at hr'
   rw[decide_eq_true hk,cond_true,show pV7 (lV7 a f A g os h B i 0)=true by simp only[pV7,Bool.and_eq_true,decide_eq_true_eq]; exact ⟨⟨⟨⟨⟨Int.le_refl _,h2,h3⟩,h4⟩,h5⟩,by omega⟩,h7⟩,cond_true,Int.sub_zero]
   cases hc:rb8 a A B i 0 i.toNat
   ·rw[hc] at hr'
    refine .inr ⟨lV8 a f A g os h B (i+1),by rw[cond_false,W_id (n:=i+1) (by omega) (by omega)],by simp only[pV8,Bool.and_eq_true,decide_eq_true_eq]; exact ⟨⟨⟨⟨by omega,h2,h3⟩,h4⟩,h5⟩,h7⟩,by simp only[mV8]; omega,?_⟩
    rw[hr']; simp only[fV8,hq2,Bool.false_or]; cases rb5 a A B (i+1) q <;> rfl
   ·rw[hc] at hr'
    exact .inl (by rw[hr']; rfl)
  ·rw[decide_eq_false hk]
   rw[show ((B.length:Int)-i).toNat=0 by omega] at hr'
   exact .inl (by rw[hr']; rfl)
 ·cases hp
noncomputable def NRl:Ad:=NRk.addW 88 5 [1,5,6,7,8] [] shV8 pV8 fV8
theorem okNRl:Ab Tryz.prog NRl.env:=
 okNRk.addW (n:=60) Tryz.func88 (show Tryz.f88.body=some (bod Tryz.f88) by kernel_rfl) (show (loops (bod Tryz.f88)).filter (fun b=>rid b==5)=[Ao Tryz.f88 5] by kernel_rfl) [1,5,6,7,8] [4] [] shV8 mV8 sV8
abbrev labC (ws:List PV):Bool:=okB ws&&decide (ws.length<=1000)
theorem qBk0 (f:Bool) (ws:List PV) (a:Int):Ah Tryz.prog NRl 60 88 [.Ac f 44 ws,iv a] =
 bif labC ws then bif okWo ws a then bif labC (ws.eraseIdx a.toNat) then bif pV8 (lV8 a false (labL ws) false (ws.eraseIdx a.toNat) false (labL (ws.eraseIdx a.toNat)) 0) then
  bif rb5 a (labL ws) (labL (ws.eraseIdx a.toNat)) 0 (((labL (ws.eraseIdx a.toNat)).length:Int)-0).toNat then some (bv true) else some (bv false) else none else none else none else none:=by kernel_rfl
noncomputable def rbB (ws:List PV) (a:Int):Bool:=rb5 a (labL ws) (labL (ws.eraseIdx a.toNat)) 0 (ws.eraseIdx a.toNat).length
theorem okB_erase {ws:List PV} (h:okB ws=true) (k:Nat):okB (ws.eraseIdx k)=true:=by
 unfold okB at h ⊢
 simp only[Bool.and_eq_true,List.all_eq_true] at h ⊢
 refine ⟨?_,fun e he=>h.2 e (List.mem_of_mem_eraseIdx he)⟩
 have h1:ws.length<=1000000:=of_decide_eq_true h.1
 exact decide_eq_true (Nat.le_trans (List.length_eraseIdx_le ..) h1)
theorem qBk (f:Bool) {ws:List PV} {a:Int} (h:(okB ws&&okWo ws a)=true):Ah Tryz.prog NRl 60 88 [.Ac f 44 ws,iv a]=some (bv (rbB ws a)):=by
 rw[Bool.and_eq_true] at h
 have h2:=h.2
 unfold okWo at h2
 simp only[Bool.and_eq_true,decide_eq_true_eq] at h2
 have hl:=List.length_eraseIdx (l:=ws) (i:=a.toNat)
 rw[if_pos (by omega)] at hl
 rw[qBk0,show labC ws=true by unfold labC; rw[h.1,decide_eq_true (show ws.length<=1000 by omega)]; rfl,h.2,show labC (ws.eraseIdx a.toNat)=true by unfold labC; rw[okB_erase h.1,decide_eq_true (show (ws.eraseIdx a.toNat).length<=1000 by omega)]; rfl,
  show pV8 (lV8 a false (labL ws) false (ws.eraseIdx a.toNat) false (labL (ws.eraseIdx a.toNat)) 0)=true by simp only[pV8,Bool.and_eq_true,decide_eq_true_eq,labL_len]; exact ⟨⟨⟨⟨Int.le_refl _,h2.2.1,by omega⟩,by omega⟩,by trivial⟩,by omega⟩,
  labL_len,show (((ws.eraseIdx a.toNat).length:Int)-0).toNat=(ws.eraseIdx a.toNat).length by omega]
 unfold rbB
 cases rb5 a (labL ws) (labL (ws.eraseIdx a.toNat)) 0 (ws.eraseIdx a.toNat).length <;> rfl
noncomputable def cBk:List PV->Option (DT PV)
 | [.Ac _ 44 ws,.val (.int .i64 a)]=>some (.br (okB ws&&okWo ws a) (.leaf (bv (rbB ws a))) .no)
 | _=>none
theorem eBk:Hx.Enters Tryz.prog 88:=enters_of Tryz.func88 (show Tryz.f88.body=some (bod Tryz.f88) by kernel_rfl) (by kernel_rfl)
theorem oBk (args:List PV) (d:DT PV) (r:PV) (h:cBk args=some d) (hr:d.run=some r):Ak Tryz.prog 88 args r:=by
 unfold cBk at h; split at h
 ·cases h
  obtain ⟨h1,rfl⟩:=Aq hr
  exact (Aa okNRl (qBk _ h1)).2
 ·cases h
end Go.Hn
