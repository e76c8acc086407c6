/- Network: the reference's Check as a contract. -/
import Derived.Test.YtliaeiggcleoaaaPart9
import Derived.Test.YtliaeiggcleoaaaPart10
import Derived.Test.YtliaeiggcleoaaaPart7
import Derived.Test.YtliaeiggcleoaaaPart5
namespace Go.Hn
open Go.Hx Go.Hg Go.Proofs
noncomputable def X0:EnvK:=E73
theorem okX0:EnvOK Try.prog X0.env:=ok73
abbrev wayX:Hx.X1:=.agg [I64,.lst 46,I64,.str,.str,.bool,I64,I64]
def shA1:Hx.S1:=⟨84,[(0,.lst 36),(3,I64),(4,.ptr 0 1 0 0),(5,I64)],[.onef 36 8 wayX]⟩
abbrev lA1 (f:Bool) (ws:List PV) (i k:Int) (id:Int) (g:Bool) (M:List PV) (lv:Int) (c n:ByteArray) (s:Bool) (wt ds:Int):LS:=([.l f ws,.i i,.i k],[.i id,.l g M,.i lv,.s c,.s n,.b s,.i wt,.i ds])
noncomputable abbrev hA1 (id:Int) (g:Bool) (M:List PV) (lv:Int) (c n:ByteArray) (s:Bool) (wt ds:Int):List Row:=(shA1.put (lA1 true [] 0 0 id g M lv c n s wt ds)).2
theorem qA1 (f:Bool) (ws:List PV) (i k:Int) (id:Int) (g:Bool) (M:List PV) (lv:Int) (c n:ByteArray) (s:Bool) (wt ds:Int):
 runB Try.prog X0 60 35 (lpb Try.f35 10) [0,3,4,5] [0,2,3,4] (shA1.put (lA1 f ws i k id g M lv c n s wt ds)).1 (shA1.put (lA1 f ws i k id g M lv c n s wt ds)).2 =
 bif decide (k < i) then bif inr ws k then bif wN ws k == id then some (.ret,tm 84 [(0,.lst f 36 ws),(2,iv 6),(3,iv i),(4,.ptr 0 1 0 0)],hA1 id g M lv c n s wt ds)
  else some (.normal,shA1.put (lA1 f ws i (W (k + 1)) id g M lv c n s wt ds)) else none
 else some (.exit 2,tm 84 [(0,.lst f 36 ws),(3,iv i),(4,.ptr 0 1 0 0)],hA1 id g M lv c n s wt ds):=by kernel_rfl
def anyI (ws:List PV) (id:Int):Int -> Nat -> Bool
 | _,0 => false
 | k,n + 1 => (wN ws k == id) || anyI ws id (k + 1) n
def pA1:LS -> Bool
 | ([.l _ ws,.i i,.i k],[.i _,.l _ _,.i _,.s _,.s _,.b _,.i _,.i _]) => decide (0 <= k) && decide (i < (ws.length:Int)) && bigL ws
 | _ => false
noncomputable def fA1:LS -> DT (PX × List PV × List Row)
 | ([.l f ws,.i i,.i k],[.i id,.l g M,.i lv,.s c,.s n,.b s,.i wt,.i ds]) =>
  .br (anyI ws id k (i - k).toNat) (.leaf (.ret,tm 84 [(0,.lst f 36 ws),(2,iv 6),(3,iv i),(4,.ptr 0 1 0 0)],hA1 id g M lv c n s wt ds)) (.leaf (.exit 2,tm 84 [(0,.lst f 36 ws),(3,iv i),(4,.ptr 0 1 0 0)],hA1 id g M lv c n s wt ds))
 | _ => .no
def mA1:LS -> Nat
 | ([.l _ _,.i i,.i k],[.i _,.l _ _,.i _,.s _,.s _,.b _,.i _,.i _]) => (i - k).toNat
 | _ => 0
theorem sA1:∀ s r,pA1 s = true -> (fA1 s).run = some r -> r.1 ≠ .normal /\ (runB Try.prog X0 60 35 (lpb Try.f35 10) [0,3,4,5] [0,2,3,4] (shA1.put s).1 (shA1.put s).2 = some r \/
   ∃ s',runB Try.prog X0 60 35 (lpb Try.f35 10) [0,3,4,5] [0,2,3,4] (shA1.put s).1 (shA1.put s).2 = some (.normal,shA1.put s') /\ pA1 s' = true /\ mA1 s' < mA1 s /\ (fA1 s').run = some r):=by
 intro t r hp hr
 unfold pA1 at hp; split at hp
 ·rename_i f ws i k id g M lv c n s wt ds
  simp only [Bool.and_eq_true,decide_eq_true_eq] at hp
  obtain ⟨⟨h1,h2⟩,h3⟩:=hp
  have hr':=run_br2 hr
  refine ⟨by rw [hr']; cases anyI ws id k (i - k).toNat <;> simp,?_⟩
  rw [show shA1.put ([.l f ws,.i i,.i k],[.i id,.l g M,.i lv,.s c,.s n,.b s,.i wt,.i ds]) = shA1.put (lA1 f ws i k id g M lv c n s wt ds) from rfl,qA1]
  by_cases hk:k < i
  ·rw [decide_eq_true hk,cond_true,inr_of h1 (by omega),cond_true,W_id (n:=k + 1) (by omega) (by omega)]
   obtain ⟨m,hm⟩:∃ m,(i - k).toNat = m + 1:=⟨(i - k).toNat - 1,by omega⟩
   have hm2:(i - (k + 1)).toNat = m:=by omega
   rw [hm] at hr'
   simp only [anyI] at hr'
   cases he:wN ws k == id with
   | true => rw [he] at hr'; exact .inl (by rw [hr']; rfl)
   | false =>
    rw [he] at hr'
    refine .inr ⟨lA1 f ws i (k + 1) id g M lv c n s wt ds,rfl,by simp only [pA1,Bool.and_eq_true,decide_eq_true_eq]; exact ⟨⟨by omega,h2⟩,h3⟩,by simp only [mA1]; omega,?_⟩
    rw [hr']
    simp only [fA1,hm2,Bool.false_or]
    cases anyI ws id (k + 1) m <;> rfl
  ·rw [decide_eq_false hk]
   rw [show (i - k).toNat = 0 by omega] at hr'
   exact .inl (by rw [hr']; rfl)
 ·cases hp
noncomputable def X1:EnvK:=X0.addW 35 10 [0,3,4,5] [] shA1 pA1 fA1
theorem okX1:EnvOK Try.prog X1.env:=
 okX0.addW (n:=60) Try.func35 (show Try.f35.body = some (bod Try.f35) by kernel_rfl) (show (loops (bod Try.f35)).filter (fun b => rid b == 10) = [lpb Try.f35 10] by kernel_rfl) [0,3,4,5] [0,2,3,4] [] shA1 mA1 sA1
def shA2:Hx.S1:=⟨84,[(0,.lst 36),(3,I64),(4,.ptr 0 1 0 0),(7,I64)],[.onef 36 8 wayX]⟩
theorem qA2 (f:Bool) (ws:List PV) (i k:Int) (id:Int) (g:Bool) (M:List PV) (lv:Int) (c n:ByteArray) (s:Bool) (wt ds:Int):
 runB Try.prog X1 60 35 (lpb Try.f35 20) [0,3,4,7] [0,2,3,4] (shA2.put (lA1 f ws i k id g M lv c n s wt ds)).1 (shA2.put (lA1 f ws i k id g M lv c n s wt ds)).2 =
 bif decide (k < i) then bif inr ws k then bif wLv (ws.getD k.toNat .any) == lv then bif inr ws k then bif big (wL (ws.getD k.toNat .any)) && big M then bif crx (wL (ws.getD k.toNat .any)) M then
   some (.ret,tm 84 [(0,.lst f 36 ws),(2,iv 16),(3,iv i),(4,.ptr 0 1 0 0)],hA1 id g M lv c n s wt ds)
  else some (.normal,shA2.put (lA1 f ws i (W (k + 1)) id g M lv c n s wt ds)) else none else none
  else some (.normal,shA2.put (lA1 f ws i (W (k + 1)) id g M lv c n s wt ds)) else none
 else some (.exit 4,tm 84 [(0,.lst f 36 ws),(3,iv i),(4,.ptr 0 1 0 0)],hA1 id g M lv c n s wt ds):=by kernel_rfl
def anyC (ws:List PV) (lv:Int) (M:List PV):Int -> Nat -> Bool
 | _,0 => false
 | k,n + 1 => ((wLv (ws.getD k.toNat .any) == lv) && crx (wL (ws.getD k.toNat .any)) M) || anyC ws lv M (k + 1) n
def pA2:LS -> Bool
 | ([.l _ ws,.i i,.i k],[.i _,.l _ M,.i _,.s _,.s _,.b _,.i _,.i _]) => decide (0 <= k) && decide (i < (ws.length:Int)) && okB ws && big M
 | _ => false
noncomputable def fA2:LS -> DT (PX × List PV × List Row)
 | ([.l f ws,.i i,.i k],[.i id,.l g M,.i lv,.s c,.s n,.b s,.i wt,.i ds]) =>
  .br (anyC ws lv M k (i - k).toNat) (.leaf (.ret,tm 84 [(0,.lst f 36 ws),(2,iv 16),(3,iv i),(4,.ptr 0 1 0 0)],hA1 id g M lv c n s wt ds)) (.leaf (.exit 4,tm 84 [(0,.lst f 36 ws),(3,iv i),(4,.ptr 0 1 0 0)],hA1 id g M lv c n s wt ds))
 | _ => .no
theorem sA2:∀ s r,pA2 s = true -> (fA2 s).run = some r -> r.1 ≠ .normal /\ (runB Try.prog X1 60 35 (lpb Try.f35 20) [0,3,4,7] [0,2,3,4] (shA2.put s).1 (shA2.put s).2 = some r \/
   ∃ s',runB Try.prog X1 60 35 (lpb Try.f35 20) [0,3,4,7] [0,2,3,4] (shA2.put s).1 (shA2.put s).2 = some (.normal,shA2.put s') /\ pA2 s' = true /\ mA1 s' < mA1 s /\ (fA2 s').run = some r):=by
 intro t r hp hr
 unfold pA2 at hp; split at hp
 ·rename_i f ws i k id g M lv c n s wt ds
  simp only [Bool.and_eq_true,decide_eq_true_eq] at hp
  obtain ⟨⟨⟨h1,h2⟩,h3⟩,h4⟩:=hp
  have hr':=run_br2 hr
  have hb:=okB_len h3
  refine ⟨by rw [hr']; cases anyC ws lv M k (i - k).toNat <;> simp,?_⟩
  rw [show shA2.put ([.l f ws,.i i,.i k],[.i id,.l g M,.i lv,.s c,.s n,.b s,.i wt,.i ds]) = shA2.put (lA1 f ws i k id g M lv c n s wt ds) from rfl,qA2]
  by_cases hk:k < i
  ·have hbg:(big (wL (ws.getD k.toNat .any)) && big M) = true:=by
    have:=okB_at h3 h1 (show k < (ws.length:Int) by omega)
    simp only [decide_eq_true_eq] at this
    rw [Bool.and_eq_true]; exact ⟨by simpa using this,by simpa using h4⟩
   rw [decide_eq_true hk,cond_true,inr_of h1 (by omega),hbg,W_id (n:=k + 1) (by omega) (by omega)]
   obtain ⟨m,hm⟩:∃ m,(i - k).toNat = m + 1:=⟨(i - k).toNat - 1,by omega⟩
   have hm2:(i - (k + 1)).toNat = m:=by omega
   rw [hm] at hr'
   simp only [anyC] at hr'
   have go:((wLv (ws.getD k.toNat .any) == lv) && crx (wL (ws.getD k.toNat .any)) M) = false -> r = bif anyC ws lv M (k + 1) m then (.ret,tm 84 [(0,.lst f 36 ws),(2,iv 16),(3,iv i),(4,.ptr 0 1 0 0)],hA1 id g M lv c n s wt ds) else (.exit 4,tm 84 [(0,.lst f 36 ws),(3,iv i),(4,.ptr 0 1 0 0)],hA1 id g M lv c n s wt ds):=fun h => by
    rw [h,Bool.false_or] at hr'; exact hr'
   have nxt:r = (bif anyC ws lv M (k + 1) m then (.ret,tm 84 [(0,.lst f 36 ws),(2,iv 16),(3,iv i),(4,.ptr 0 1 0 0)],hA1 id g M lv c n s wt ds) else (.exit 4,tm 84 [(0,.lst f 36 ws),(3,iv i),(4,.ptr 0 1 0 0)],hA1 id g M lv c n s wt ds)) ->
     pA2 (lA1 f ws i (k + 1) id g M lv c n s wt ds) = true /\ mA1 (lA1 f ws i (k + 1) id g M lv c n s wt ds) < mA1 (lA1 f ws i k id g M lv c n s wt ds) /\ (fA2 (lA1 f ws i (k + 1) id g M lv c n s wt ds)).run = some r:=fun h => by
    refine ⟨by simp only [pA2,Bool.and_eq_true,decide_eq_true_eq]; exact ⟨⟨⟨by omega,h2⟩,h3⟩,h4⟩,by simp only [mA1]; omega,?_⟩
    rw [h]
    simp only [fA2,hm2]
    cases anyC ws lv M (k + 1) m <;> rfl
   cases he:wLv (ws.getD k.toNat .any) == lv with
   | false => exact .inr ⟨lA1 f ws i (k + 1) id g M lv c n s wt ds,rfl,nxt (go (by rw [he]; rfl))⟩
   | true =>
    cases hx:crx (wL (ws.getD k.toNat .any)) M with
    | false => exact .inr ⟨lA1 f ws i (k + 1) id g M lv c n s wt ds,rfl,nxt (go (by rw [he,hx]; rfl))⟩
    | true => rw [he,hx] at hr'; exact .inl (by rw [hr']; rfl)
  ·rw [decide_eq_false hk]
   rw [show (i - k).toNat = 0 by omega] at hr'
   exact .inl (by rw [hr']; rfl)
 ·cases hp
noncomputable def X2:EnvK:=X1.addW 35 20 [0,3,4,7] [] shA2 pA2 fA2
theorem okX2:EnvOK Try.prog X2.env:=
 okX1.addW (n:=60) Try.func35 (show Try.f35.body = some (bod Try.f35) by kernel_rfl) (show (loops (bod Try.f35)).filter (fun b => rid b == 20) = [lpb Try.f35 20] by kernel_rfl) [0,3,4,7] [0,2,3,4] [] shA2 mA1 sA2
end Go.Hn
/- Thin: find as a contract: the first way with a number. -/
namespace Go.Hn
open Go.Hx Go.Hg Go.Proofs
def fiW (ws:List PV) (id:Int):Int -> Nat -> Int
 | _,0 => -1
 | k,n + 1 => bif wN ws k == id then k else fiW ws id (k + 1) n
theorem fiW_none {ws:List PV} {id:Int}:∀ (n:Nat) (k:Int),anyI ws id k n = false -> fiW ws id k n = -1
 | 0,_,_ => rfl
 | n + 1,k,h => by
  unfold anyI at h
  rw [Bool.or_eq_false_iff] at h
  unfold fiW
  rw [h.1,cond_false,fiW_none n (k + 1) h.2]
def shT0:Hx.S1:=⟨19,[(0,.lst 36),(1,.fn 37 [] [.ptr 0 1 0 0]),(7,I64),(8,I64)],[.one 3 1 I64]⟩
abbrev lT0 (f:Bool) (ws:List PV) (n k:Int) (id:Int):LS:=([.l f ws,.i n,.i k],[.i id])
noncomputable abbrev hT0 (id:Int):List Row:=(shT0.put (lT0 true [] 0 0 id)).2
theorem qT0 (f:Bool) (ws:List PV) (n k id:Int):runBr Try.prog TA0 60 1 36 (lpb Try.f36 2) [0,1,7,8] [4] (shT0.put (lT0 f ws n k id)).1 (shT0.put (lT0 f ws n k id)).2 =
 bif decide (k < n) then bif inr ws k then bif wN ws k == id then some (.ret,tm 19 [(4,iv k)],hT0 id) else some (.normal,shT0.put (lT0 f ws n (W (k + 1)) id)) else none
 else some (.exit 0,tm 19 [],hT0 id):=by kernel_rfl
def pT0:LS -> Bool
 | ([.l _ ws,.i n,.i k],[.i _]) => decide (0 <= k) && decide (n = (ws.length:Int)) && bigL ws
 | _ => false
noncomputable def fT0:LS -> DT (PX × List PV × List Row)
 | ([.l _ ws,.i n,.i k],[.i id]) => .br (anyI ws id k (n - k).toNat) (.leaf (.ret,tm 19 [(4,iv (fiW ws id k (n - k).toNat))],hT0 id)) (.leaf (.exit 0,tm 19 [],hT0 id))
 | _ => .no
def mT0:LS -> Nat
 | ([.l _ _,.i n,.i k],[.i _]) => (n - k).toNat
 | _ => 0
theorem sT0:∀ s r,pT0 s = true -> (fT0 s).run = some r -> r.1 ≠ .normal /\ (runBr Try.prog TA0 60 1 36 (lpb Try.f36 2) [0,1,7,8] [4] (shT0.put s).1 (shT0.put s).2 = some r \/
   ∃ s',runBr Try.prog TA0 60 1 36 (lpb Try.f36 2) [0,1,7,8] [4] (shT0.put s).1 (shT0.put s).2 = some (.normal,shT0.put s') /\ pT0 s' = true /\ mT0 s' < mT0 s /\ (fT0 s').run = some r):=by
 intro t r hp hr
 unfold pT0 at hp; split at hp
 ·rename_i f ws n k id
  simp only [Bool.and_eq_true,decide_eq_true_eq] at hp
  obtain ⟨⟨h1,rfl⟩,h3⟩:=hp
  have hr':=run_br2 hr
  refine ⟨by rw [hr']; cases anyI ws id k ((ws.length:Int) - k).toNat <;> simp,?_⟩
  rw [show shT0.put ([.l f ws,.i (ws.length:Int),.i k],[.i id]) = shT0.put (lT0 f ws (ws.length:Int) k id) from rfl,qT0]
  by_cases hk:k < (ws.length:Int)
  ·rw [decide_eq_true hk,cond_true,inr_of h1 hk,cond_true,W_id (n:=k + 1) (by omega) (by omega)]
   obtain ⟨m,hm⟩:∃ m,((ws.length:Int) - k).toNat = m + 1:=⟨((ws.length:Int) - k).toNat - 1,by omega⟩
   have hm2:((ws.length:Int) - (k + 1)).toNat = m:=by omega
   rw [hm] at hr'
   simp only [anyI,fiW] at hr'
   cases he:wN ws k == id with
   | true => rw [he] at hr'; exact .inl (by rw [hr']; rfl)
   | false =>
    rw [he] at hr'
    refine .inr ⟨lT0 f ws (ws.length:Int) (k + 1) id,rfl,by simp only [pT0,Bool.and_eq_true,decide_eq_true_eq]; exact ⟨⟨by omega,trivial⟩,h3⟩,by simp only [mT0]; omega,?_⟩
    rw [hr']
    simp only [fT0,hm2,Bool.false_or,cond_false]
    cases anyI ws id (k + 1) m <;> rfl
  ·rw [decide_eq_false hk]
   rw [show ((ws.length:Int) - k).toNat = 0 by omega] at hr'
   exact .inl (by rw [hr']; rfl)
 ·cases hp
noncomputable def TA1:EnvK:=TA0.addWr 1 36 2 [0,1,7,8] shT0 pT0 fT0
theorem okTA1:EnvOK Try.prog TA1.env:=
 okTA0.addWr (n:=60) (q:=1) Try.func36 (show Try.f36.body = some (bod Try.f36) by kernel_rfl) (show (loops (bod Try.f36)).filter (fun b => rid b == 2) = [lpb Try.f36 2] by kernel_rfl) [0,1,7,8] [4] shT0 mT0 sT0
theorem qIx (f:Bool) (ws:List PV) (id:Int):runSE Try.prog TA1 60 36 [.lst f 36 ws,.fn (.func 37) [] [.ptr 0 1 0 0]] [r1 3 1 (iv id)] =
 bif pT0 (lT0 f ws (ws.length:Int) 0 id) then bif anyI ws id 0 ((ws.length:Int) - 0).toNat then some (iv (fiW ws id 0 ((ws.length:Int) - 0).toNat)) else some (iv (-1)) else none:=by kernel_rfl
theorem qIx' (f:Bool) (ws:List PV) (id:Int) (h:bigL ws = true):runSE Try.prog TA1 60 36 [.lst f 36 ws,.fn (.func 37) [] [.ptr 0 1 0 0]] [r1 3 1 (iv id)] = some (iv (fiW ws id 0 ws.length)):=by
 rw [qIx,show pT0 (lT0 f ws (ws.length:Int) 0 id) = true by simp only [pT0,Bool.and_eq_true,decide_eq_true_eq]; exact ⟨⟨Int.le_refl _,trivial⟩,of_decide_eq_true h⟩,show ((ws.length:Int) - 0).toNat = ws.length by omega]
 cases ha:anyI ws id 0 ws.length with
 | true => rfl
 | false => rw [fiW_none _ _ ha]; rfl
def rowI:Row -> Option Int
 | ⟨[.val (.int .i64 id)],1,3,true,true,false,none,false⟩ => some id
 | _ => none
theorem rowI_some {r:Row} {id:Int} (h:rowI r = some id):r = r1 3 1 (iv id):=by
 unfold rowI at h
 split at h
 ·cases h; rfl
 ·cases h
def cIx:List PV -> List Row -> Option (DT PV)
 | [.lst _ 36 ws,.fn (.func 37) [] [.ptr 0 1 0 0]],[r] =>
  match rowI r with
  | some id => some (.br (bigL ws) (.leaf (iv (fiW ws id 0 ws.length))) .no)
  | none => none
 | _,_ => none
theorem eIx:Hx.Enters Try.prog 36:=(runSE_sound okTA1 (qIx' true [] 0 rfl)).1
theorem oIx (args:List PV) (H:List Row) (d:DT PV) (p:PV) (h:cIx args H = some d) (hr:d.run = some p):RCall Try.prog H.length 36 args H p H:=by
 unfold cIx at h
 split at h
 ·split at h
  ·rename_i f ws r _ id hD
   cases h
   obtain ⟨h1,rfl⟩:=run_br hr
   rw [rowI_some hD]
   exact (runSE_sound okTA1 (qIx' f ws id h1)).2
  ·cases h
 ·cases h
noncomputable def TB0:EnvK:=((({}:EnvK).addEnt Try.prog kth).addKeys Try.prog kth).addRE 36 cIx
theorem okTB0:EnvOK Try.prog TB0.env:=((EnvOK.addEnt envOK_zero kth_ok).addKeys kth_ok).addRE eIx oIx
abbrev nilV:PV:=.val (.slice none 0 0)
def nlB (t:TypeId):PV -> Bool
 | .val (.slice none 0 0) => true
 | .lst _ t' _ => t == t'
 | _ => false
theorem nlB_cases {t:TypeId} {p:PV} (h:nlB t p = true):p = nilV \/ ∃ f es,p = .lst f t es:=by
 unfold nlB at h
 split at h
 ·exact .inl rfl
 ·rename_i f t' es; simp only [beq_iff_eq] at h; subst h; exact .inr ⟨f,es,rfl⟩
 ·cases h
def nlM (a b d:PV):Bool:=nlB 66 a && nlB 71 b && nlB 77 d
theorem nlM_cases {P:PV -> PV -> PV -> Prop} {a b d:PV} (h:nlM a b d = true)
  (h1:P nilV nilV nilV) (h2:∀ i ds,P nilV nilV (.lst i 77 ds)) (h3:∀ g bs,P nilV (.lst g 71 bs) nilV) (h4:∀ g bs i ds,P nilV (.lst g 71 bs) (.lst i 77 ds))
  (h5:∀ f es,P (.lst f 66 es) nilV nilV) (h6:∀ f es i ds,P (.lst f 66 es) nilV (.lst i 77 ds)) (h7:∀ f es g bs,P (.lst f 66 es) (.lst g 71 bs) nilV) (h8:∀ f es g bs i ds,P (.lst f 66 es) (.lst g 71 bs) (.lst i 77 ds)):P a b d:=by
 unfold nlM at h
 simp only [Bool.and_eq_true] at h
 rcases nlB_cases h.1.1 with rfl | ⟨f,es,rfl⟩ <;> rcases nlB_cases h.1.2 with rfl | ⟨g,bs,rfl⟩ <;> rcases nlB_cases h.2 with rfl | ⟨i,ds,rfl⟩
 ·exact h1
 ·exact h2 _ _
 ·exact h3 _ _
 ·exact h4 _ _ _ _
 ·exact h5 _ _
 ·exact h6 _ _ _ _
 ·exact h7 _ _ _ _
 ·exact h8 _ _ _ _ _ _
abbrev mapv (a b:PV) (f:Bool) (ws:List PV) (d:PV):PV:=.agg [a,b,.lst f 36 ws,d]
theorem qFind (a b:PV) (f:Bool) (ws:List PV) (d:PV) (id:Int) (h:nlM a b d = true):runP Try.prog TB0 60 18 [mapv a b f ws d,iv id] = bif bigL ws then some (iv (fiW ws id 0 ws.length)) else none:=by
 revert h
 refine fun h => nlM_cases (P:=fun a b d => runP Try.prog TB0 60 18 [mapv a b f ws d,iv id] = bif bigL ws then some (iv (fiW ws id 0 ws.length)) else none) h ?_ ?_ ?_ ?_ ?_ ?_ ?_ ?_
 ·kernel_rfl
 ·intro i ds; kernel_rfl
 ·intro g bs; kernel_rfl
 ·intro g bs i ds; kernel_rfl
 ·intro f' es; kernel_rfl
 ·intro f' es i ds; kernel_rfl
 ·intro f' es g bs; kernel_rfl
 ·intro f' es g bs i ds; kernel_rfl
def cFi:List PV -> Option (DT PV)
 | [.agg [a,b,.lst _ 36 ws,d],.val (.int .i64 id)] => some (.br (nlM a b d && bigL ws) (.leaf (iv (fiW ws id 0 ws.length))) .no)
 | _ => none
theorem eFi:Hx.Enters Try.prog 18:=(runP_sound okTB0 (n:=60) (Eq.trans (qFind nilV nilV true [] nilV 0 rfl) rfl)).1
theorem oFi (args:List PV) (d:DT PV) (r:PV) (h:cFi args = some d) (hr:d.run = some r):PCall Try.prog 18 args r:=by
 unfold cFi at h; split at h
 ·cases h
  obtain ⟨h1,rfl⟩:=run_br hr
  rw [Bool.and_eq_true] at h1
  exact (runP_sound okTB0 (n:=60) (Eq.trans (qFind _ _ _ _ _ _ h1.1) (by rw [h1.2]; rfl))).2
 ·cases h
noncomputable def TB1:EnvK:=TB0.addF 18 cFi
theorem okTB1:EnvOK Try.prog TB1.env:=okTB0.addF eFi oFi
end Go.Hn
/- Thin: ways are numbered; each way's group, as a map (printed by gentc.py). -/
namespace Go.Hn
open Go.Hx Go.Hg Go.Proofs
def nbE (i:Int) (e:PV):PV:=.agg [iv i,.lst false 46 (wL e),iv (wLv e),.val (.string ((e.cellAt 3).getS)),.val (.string ((e.cellAt 4).getS)),bv ((e.cellAt 5).getB),iv ((e.cellAt 6).getI),iv ((e.cellAt 7).getI)]
def nuW:Int -> List PV -> List PV
 | _,[] => []
 | k,e :: es => nbE k e :: nuW (k + 1) es
theorem nuW_len:∀ (es:List PV) (k:Int),(nuW k es).length = es.length
 | [],_ => rfl
 | e :: es,k => by rw [nuW,List.length_cons,nuW_len es,List.length_cons]
theorem qe0 (f:Bool):runP Try.prog {} 60 25 [.lst f 36 [],.fn (.func 48) [] []] = some (.val (.slice none 0 0)):=by kernel_rfl
theorem qe1 (f:Bool) (a:PV):runP Try.prog {} 60 25 [.lst f 36 [a],.fn (.func 48) [] []] = some (.lst false 36 [nbE 0 a]):=by kernel_rfl
theorem qe2 (f:Bool) (a b:PV):runP Try.prog {} 60 25 [.lst f 36 [a,b],.fn (.func 48) [] []] = some (.lst false 36 [nbE 0 a,nbE 1 b]):=by kernel_rfl
theorem qe3 (f:Bool) (a b c:PV):runP Try.prog {} 60 25 [.lst f 36 [a,b,c],.fn (.func 48) [] []] = some (.lst false 36 [nbE 0 a,nbE 1 b,nbE 2 c]):=by kernel_rfl
theorem qe4 (f:Bool) (a b c d:PV):runP Try.prog {} 60 25 [.lst f 36 [a,b,c,d],.fn (.func 48) [] []] = some (.lst false 36 [nbE 0 a,nbE 1 b,nbE 2 c,nbE 3 d]):=by kernel_rfl
theorem qe5 (f:Bool) (a b c d e:PV):runP Try.prog {} 60 25 [.lst f 36 [a,b,c,d,e],.fn (.func 48) [] []] = some (.lst false 36 [nbE 0 a,nbE 1 b,nbE 2 c,nbE 3 d,nbE 4 e]):=by kernel_rfl
theorem qe6 (f:Bool) (a b c d e g:PV):runP Try.prog {} 60 25 [.lst f 36 [a,b,c,d,e,g],.fn (.func 48) [] []] = some (.lst false 36 [nbE 0 a,nbE 1 b,nbE 2 c,nbE 3 d,nbE 4 e,nbE 5 g]):=by kernel_rfl
theorem eEa:Hx.Enters Try.prog 25:=(runP_sound envOK_zero (qe0 true)).1
theorem qEa (f:Bool) (es:List PV) (h:es.length <= 6):PCall Try.prog 25 [.lst f 36 es,.fn (.func 48) [] []] (.lst false 36 (nuW 0 es)):=by
 match es,h with
 | [],_ => exact pcall_nil (runP_sound envOK_zero (qe0 f)).2
 | [a],_ => exact (runP_sound envOK_zero (qe1 f a)).2
 | [a,b],_ => exact (runP_sound envOK_zero (qe2 f a b)).2
 | [a,b,c],_ => exact (runP_sound envOK_zero (qe3 f a b c)).2
 | [a,b,c,d],_ => exact (runP_sound envOK_zero (qe4 f a b c d)).2
 | [a,b,c,d,e],_ => exact (runP_sound envOK_zero (qe5 f a b c d e)).2
 | [a,b,c,d,e,g],_ => exact (runP_sound envOK_zero (qe6 f a b c d e g)).2
 | _ :: _ :: _ :: _ :: _ :: _ :: _ :: _,h => simp only [List.length_cons] at h; omega
def cEa:List PV -> Option (DT PV)
 | [.lst _ 36 es,.fn (.func 48) [] []] => some (.br (decide (es.length <= 6)) (.leaf (.lst false 36 (nuW 0 es))) .no)
 | _ => none
theorem oEa (args:List PV) (d:DT PV) (r:PV) (h:cEa args = some d) (hr:d.run = some r):PCall Try.prog 25 args r:=by
 unfold cEa at h; split at h
 ·rename_i f es
  cases h
  obtain ⟨h1,rfl⟩:=run_br hr
  exact qEa f es (of_decide_eq_true h1)
 ·cases h
noncomputable def TC0:EnvK:=(((((({}:EnvK).addKeys Try.prog kth).addF 25 cEa).addF 49 cGrp).addF 26 cWo).addK 38)
theorem okTC0:EnvOK Try.prog TC0.env:=((((((EnvOK.addKeys envOK_zero kth_ok).addF eEa oEa).addF eGrp oGrp).addF eWo oWo).addK 38))
def gp1 (g:List PV) (v:Int):Int -> Nat -> List (PV × PV) -> List (PV × PV)
 | _,0,D => D
 | k,n + 1,D => gp1 g v (k + 1) n (mput D (iv (nI g k)) (iv v))
abbrev gEl (G:List PV) (i:Int):List PV:=eL (G.getD i.toNat .any)
def gpA (G:List PV):Int -> Nat -> List (PV × PV) -> List (PV × PV)
 | _,0,D => D
 | i,n + 1,D => gpA G (i + 1) n (gp1 (gEl G i) i 0 (gEl G i).length D)
theorem bigG_at {G:List PV} (h:okG G = true) {i:Int} (h1:0 <= i) (h2:i < (G.length:Int)):(gEl G i).length <= 1000000:=by
 unfold okG bigN at h
 rw [Bool.and_eq_true,List.all_eq_true] at h
 unfold gEl
 rw [List.getD_eq_getElem?_getD,List.getElem?_eq_getElem (by omega)]
 exact of_decide_eq_true (h.2 _ (List.getElem_mem (l:=G) (n:=i.toNat) (by omega)))
theorem bigG_len {G:List PV} (h:okG G = true):G.length <= 1000000:=by
 unfold okG at h
 rw [Bool.and_eq_true] at h
 exact of_decide_eq_true h.1
def shGA:Hx.S1:=⟨32,[(3,.mp 0),(5,I64),(13,.lst 22),(14,I64),(15,I64),(20,.lst 3),(21,I64),(22,I64)],[.map 3 3]⟩
abbrev lGA (n:Int) (f:Bool) (G:List PV) (l i:Int) (g:Bool) (es:List PV) (m k:Int) (D:List (PV × PV)):LS:=([.i n,.l f G,.i l,.i i,.l g es,.i m,.i k],[.m D])
noncomputable abbrev hGA (D:List (PV × PV)):List Row:=(shGA.put (lGA 0 true [] 0 0 true [] 0 0 D)).2
abbrev tGA (f:Bool) (G:List PV) (l i:Int):List PV:=tm 32 [(3,.mp 0),(13,.lst f 22 G),(14,iv l),(15,iv i)]
theorem qGA (n:Int) (f:Bool) (G:List PV) (l i:Int) (g:Bool) (es:List PV) (m k:Int) (D:List (PV × PV)):runB Try.prog TC0 60 38 (lpb Try.f38 7) [3,5,13,14,15,20,21,22] [3,13,14,15] (shGA.put (lGA n f G l i g es m k D)).1 (shGA.put (lGA n f G l i g es m k D)).2 =
 bif decide (k < m) then bif inr es k then some (.normal,shGA.put (lGA n f G l i g es m (W (k + 1)) (mput D (iv (nI es k)) (iv n)))) else none
 else some (.exit 2,tGA f G l i,hGA D):=by kernel_rfl
def pGA:LS -> Bool
 | ([.i _,.l _ _,.i _,.i _,.l _ es,.i m,.i k],[.m _]) => decide (0 <= k) && decide (m = (es.length:Int)) && bigL es
 | _ => false
noncomputable def fGA:LS -> DT (PX × List PV × List Row)
 | ([.i n,.l f G,.i l,.i i,.l _ es,.i m,.i k],[.m D]) => .leaf (.exit 2,tGA f G l i,hGA (gp1 es n k (m - k).toNat D))
 | _ => .no
def mGA:LS -> Nat
 | ([.i _,.l _ _,.i _,.i _,.l _ _,.i m,.i k],[.m _]) => (m - k).toNat
 | _ => 0
theorem sGA:∀ s r,pGA s = true -> (fGA s).run = some r -> r.1 ≠ .normal /\ (runB Try.prog TC0 60 38 (lpb Try.f38 7) [3,5,13,14,15,20,21,22] [3,13,14,15] (shGA.put s).1 (shGA.put s).2 = some r \/
   ∃ s',runB Try.prog TC0 60 38 (lpb Try.f38 7) [3,5,13,14,15,20,21,22] [3,13,14,15] (shGA.put s).1 (shGA.put s).2 = some (.normal,shGA.put s') /\ pGA s' = true /\ mGA s' < mGA s /\ (fGA s').run = some r):=by
 intro t r hp hr
 unfold pGA at hp; split at hp
 ·rename_i n f G l i g es m k D
  simp only [Bool.and_eq_true,decide_eq_true_eq] at hp
  obtain ⟨⟨h1,rfl⟩,h3⟩:=hp
  have hr':=(Option.some.inj hr).symm
  refine ⟨by rw [hr']; simp,?_⟩
  rw [show shGA.put ([.i n,.l f G,.i l,.i i,.l g es,.i (es.length:Int),.i k],[.m D]) = shGA.put (lGA n f G l i g es (es.length:Int) k D) from rfl,qGA]
  by_cases hk:k < (es.length:Int)
  ·obtain ⟨q,hq⟩:∃ q,((es.length:Int) - k).toNat = q + 1:=⟨((es.length:Int) - k).toNat - 1,by omega⟩
   have hq2:((es.length:Int) - (k + 1)).toNat = q:=by omega
   rw [hq] at hr'
   rw [decide_eq_true hk,cond_true,inr_of h1 hk,cond_true,W_id (n:=k + 1) (by omega) (by omega)]
   refine .inr ⟨lGA n f G l i g es (es.length:Int) (k + 1) (mput D (iv (nI es k)) (iv n)),rfl,by simp only [pGA,Bool.and_eq_true,decide_eq_true_eq]; exact ⟨⟨by omega,trivial⟩,h3⟩,by simp only [mGA]; omega,?_⟩
   rw [hr']
   simp only [fGA,hq2,gp1]
   rfl
  ·rw [decide_eq_false hk]
   rw [show ((es.length:Int) - k).toNat = 0 by omega] at hr'
   exact .inl (by rw [hr']; rfl)
 ·cases hp
noncomputable def TC1:EnvK:=TC0.addW 38 7 [3,5,13,14,15,20,21,22] [] shGA pGA fGA
theorem okTC1:EnvOK Try.prog TC1.env:=
 okTC0.addW (n:=60) Try.func38 (show Try.f38.body = some (bod Try.f38) by kernel_rfl) (show (loops (bod Try.f38)).filter (fun b => rid b == 7) = [lpb Try.f38 7] by kernel_rfl) [3,5,13,14,15,20,21,22] [3,13,14,15] [] shGA mGA sGA
def shHA:Hx.S1:=⟨32,[(3,.mp 0),(13,.lst 22),(14,I64),(15,I64)],[.map 3 3]⟩
abbrev lHA (f:Bool) (G:List PV) (l i:Int) (D:List (PV × PV)):LS:=([.l f G,.i l,.i i],[.m D])
theorem qHA (f:Bool) (G:List PV) (l i:Int) (D:List (PV × PV)):runB Try.prog TC1 60 38 (lpb Try.f38 4) [3,13,14,15] [3] (shHA.put (lHA f G l i D)).1 (shHA.put (lHA f G l i D)).2 =
 bif decide (i < l) then bif inr G i then bif pGA (lGA i f G l i false (gEl G i) ((gEl G i).length:Int) 0 D) then
  some (.normal,shHA.put (lHA f G l (W (i + 1)) (gp1 (gEl G i) i 0 (((gEl G i).length:Int) - 0).toNat D))) else none else none
 else some (.exit 0,tm 32 [(3,.mp 0)],hGA D):=by kernel_rfl
def pHA:LS -> Bool
 | ([.l _ G,.i l,.i i],[.m _]) => decide (0 <= i) && decide (l = (G.length:Int)) && okG G
 | _ => false
noncomputable def fHA:LS -> DT (PX × List PV × List Row)
 | ([.l _ G,.i l,.i i],[.m D]) => .leaf (.exit 0,tm 32 [(3,.mp 0)],hGA (gpA G i (l - i).toNat D))
 | _ => .no
def mHA:LS -> Nat
 | ([.l _ _,.i l,.i i],[.m _]) => (l - i).toNat
 | _ => 0
theorem sHA:∀ s r,pHA s = true -> (fHA s).run = some r -> r.1 ≠ .normal /\ (runB Try.prog TC1 60 38 (lpb Try.f38 4) [3,13,14,15] [3] (shHA.put s).1 (shHA.put s).2 = some r \/
   ∃ s',runB Try.prog TC1 60 38 (lpb Try.f38 4) [3,13,14,15] [3] (shHA.put s).1 (shHA.put s).2 = some (.normal,shHA.put s') /\ pHA s' = true /\ mHA s' < mHA s /\ (fHA s').run = some r):=by
 intro t r hp hr
 unfold pHA at hp; split at hp
 ·rename_i f G l i D
  simp only [Bool.and_eq_true,decide_eq_true_eq] at hp
  obtain ⟨⟨h1,rfl⟩,h3⟩:=hp
  have hr':=(Option.some.inj hr).symm
  refine ⟨by rw [hr']; simp,?_⟩
  rw [show shHA.put ([.l f G,.i (G.length:Int),.i i],[.m D]) = shHA.put (lHA f G (G.length:Int) i D) from rfl,qHA]
  have hb:=bigG_len h3
  by_cases hi:i < (G.length:Int)
  ·obtain ⟨q,hq⟩:∃ q,((G.length:Int) - i).toNat = q + 1:=⟨((G.length:Int) - i).toNat - 1,by omega⟩
   have hq2:((G.length:Int) - (i + 1)).toNat = q:=by omega
   rw [hq] at hr'
   have he:=bigG_at h3 h1 hi
   rw [decide_eq_true hi,cond_true,inr_of h1 hi,cond_true,W_id (n:=i + 1) (by omega) (by omega),show pGA (lGA i f G (G.length:Int) i false (gEl G i) ((gEl G i).length:Int) 0 D) = true by simp only [pGA,Bool.and_eq_true,decide_eq_true_eq]; exact ⟨⟨Int.le_refl _,trivial⟩,he⟩,
    show (((gEl G i).length:Int) - 0).toNat = (gEl G i).length by omega]
   refine .inr ⟨lHA f G (G.length:Int) (i + 1) (gp1 (gEl G i) i 0 (gEl G i).length D),rfl,by simp only [pHA,Bool.and_eq_true,decide_eq_true_eq]; exact ⟨⟨by omega,trivial⟩,h3⟩,by simp only [mHA]; omega,?_⟩
   rw [hr']
   simp only [fHA,hq2,gpA]
   rfl
  ·rw [decide_eq_false hi]
   rw [show ((G.length:Int) - i).toNat = 0 by omega] at hr'
   exact .inl (by rw [hr']; rfl)
 ·cases hp
noncomputable def TC2:EnvK:=TC1.addW 38 4 [3,13,14,15] [] shHA pHA fHA
theorem okTC2:EnvOK Try.prog TC2.env:=
 okTC1.addW (n:=60) Try.func38 (show Try.f38.body = some (bod Try.f38) by kernel_rfl) (show (loops (bod Try.f38)).filter (fun b => rid b == 4) = [lpb Try.f38 4] by kernel_rfl) [3,13,14,15] [3] [] shHA mHA sHA
def shGB:Hx.S1:=⟨32,[(3,.mp 1),(5,I64),(13,.lst 22),(14,I64),(15,I64),(20,.lst 3),(21,I64),(22,I64)],[.map 3 3,.map 3 3]⟩
abbrev lGB (n:Int) (f:Bool) (G:List PV) (l i:Int) (g:Bool) (es:List PV) (m k:Int) (D0:List (PV × PV)) (D:List (PV × PV)):LS:=([.i n,.l f G,.i l,.i i,.l g es,.i m,.i k],[.m D0,.m D])
noncomputable abbrev hGB (D0:List (PV × PV)) (D:List (PV × PV)):List Row:=(shGB.put (lGB 0 true [] 0 0 true [] 0 0 D0 D)).2
abbrev tGB (f:Bool) (G:List PV) (l i:Int):List PV:=tm 32 [(3,.mp 1),(13,.lst f 22 G),(14,iv l),(15,iv i)]
theorem qGB (n:Int) (f:Bool) (G:List PV) (l i:Int) (g:Bool) (es:List PV) (m k:Int) (D0:List (PV × PV)) (D:List (PV × PV)):runB Try.prog TC2 60 38 (lpb Try.f38 7) [3,5,13,14,15,20,21,22] [3,13,14,15] (shGB.put (lGB n f G l i g es m k D0 D)).1 (shGB.put (lGB n f G l i g es m k D0 D)).2 =
 bif decide (k < m) then bif inr es k then some (.normal,shGB.put (lGB n f G l i g es m (W (k + 1)) D0 (mput D (iv (nI es k)) (iv n)))) else none
 else some (.exit 2,tGB f G l i,hGB D0 D):=by kernel_rfl
def pGB:LS -> Bool
 | ([.i _,.l _ _,.i _,.i _,.l _ es,.i m,.i k],[.m _,.m _]) => decide (0 <= k) && decide (m = (es.length:Int)) && bigL es
 | _ => false
noncomputable def fGB:LS -> DT (PX × List PV × List Row)
 | ([.i n,.l f G,.i l,.i i,.l _ es,.i m,.i k],[.m D0,.m D]) => .leaf (.exit 2,tGB f G l i,hGB D0 (gp1 es n k (m - k).toNat D))
 | _ => .no
def mGB:LS -> Nat
 | ([.i _,.l _ _,.i _,.i _,.l _ _,.i m,.i k],[.m _,.m _]) => (m - k).toNat
 | _ => 0
theorem sGB:∀ s r,pGB s = true -> (fGB s).run = some r -> r.1 ≠ .normal /\ (runB Try.prog TC2 60 38 (lpb Try.f38 7) [3,5,13,14,15,20,21,22] [3,13,14,15] (shGB.put s).1 (shGB.put s).2 = some r \/
   ∃ s',runB Try.prog TC2 60 38 (lpb Try.f38 7) [3,5,13,14,15,20,21,22] [3,13,14,15] (shGB.put s).1 (shGB.put s).2 = some (.normal,shGB.put s') /\ pGB s' = true /\ mGB s' < mGB s /\ (fGB s').run = some r):=by
 intro t r hp hr
 unfold pGB at hp; split at hp
 ·rename_i n f G l i g es m k D0 D
  simp only [Bool.and_eq_true,decide_eq_true_eq] at hp
  obtain ⟨⟨h1,rfl⟩,h3⟩:=hp
  have hr':=(Option.some.inj hr).symm
  refine ⟨by rw [hr']; simp,?_⟩
  rw [show shGB.put ([.i n,.l f G,.i l,.i i,.l g es,.i (es.length:Int),.i k],[.m D0,.m D]) = shGB.put (lGB n f G l i g es (es.length:Int) k D0 D) from rfl,qGB]
  by_cases hk:k < (es.length:Int)
  ·obtain ⟨q,hq⟩:∃ q,((es.length:Int) - k).toNat = q + 1:=⟨((es.length:Int) - k).toNat - 1,by omega⟩
   have hq2:((es.length:Int) - (k + 1)).toNat = q:=by omega
   rw [hq] at hr'
   rw [decide_eq_true hk,cond_true,inr_of h1 hk,cond_true,W_id (n:=k + 1) (by omega) (by omega)]
   refine .inr ⟨lGB n f G l i g es (es.length:Int) (k + 1) D0 (mput D (iv (nI es k)) (iv n)),rfl,by simp only [pGB,Bool.and_eq_true,decide_eq_true_eq]; exact ⟨⟨by omega,trivial⟩,h3⟩,by simp only [mGB]; omega,?_⟩
   rw [hr']
   simp only [fGB,hq2,gp1]
   rfl
  ·rw [decide_eq_false hk]
   rw [show ((es.length:Int) - k).toNat = 0 by omega] at hr'
   exact .inl (by rw [hr']; rfl)
 ·cases hp
noncomputable def TC3:EnvK:=TC2.addW 38 7 [3,5,13,14,15,20,21,22] [] shGB pGB fGB
theorem okTC3:EnvOK Try.prog TC3.env:=
 okTC2.addW (n:=60) Try.func38 (show Try.f38.body = some (bod Try.f38) by kernel_rfl) (show (loops (bod Try.f38)).filter (fun b => rid b == 7) = [lpb Try.f38 7] by kernel_rfl) [3,5,13,14,15,20,21,22] [3,13,14,15] [] shGB mGB sGB
def shHB:Hx.S1:=⟨32,[(3,.mp 1),(13,.lst 22),(14,I64),(15,I64)],[.map 3 3,.map 3 3]⟩
abbrev lHB (f:Bool) (G:List PV) (l i:Int) (D0:List (PV × PV)) (D:List (PV × PV)):LS:=([.l f G,.i l,.i i],[.m D0,.m D])
theorem qHB (f:Bool) (G:List PV) (l i:Int) (D0:List (PV × PV)) (D:List (PV × PV)):runB Try.prog TC3 60 38 (lpb Try.f38 4) [3,13,14,15] [3] (shHB.put (lHB f G l i D0 D)).1 (shHB.put (lHB f G l i D0 D)).2 =
 bif decide (i < l) then bif inr G i then bif pGB (lGB i f G l i false (gEl G i) ((gEl G i).length:Int) 0 D0 D) then
  some (.normal,shHB.put (lHB f G l (W (i + 1)) D0 (gp1 (gEl G i) i 0 (((gEl G i).length:Int) - 0).toNat D))) else none else none
 else some (.exit 0,tm 32 [(3,.mp 1)],hGB D0 D):=by kernel_rfl
def pHB:LS -> Bool
 | ([.l _ G,.i l,.i i],[.m _,.m _]) => decide (0 <= i) && decide (l = (G.length:Int)) && okG G
 | _ => false
noncomputable def fHB:LS -> DT (PX × List PV × List Row)
 | ([.l _ G,.i l,.i i],[.m D0,.m D]) => .leaf (.exit 0,tm 32 [(3,.mp 1)],hGB D0 (gpA G i (l - i).toNat D))
 | _ => .no
def mHB:LS -> Nat
 | ([.l _ _,.i l,.i i],[.m _,.m _]) => (l - i).toNat
 | _ => 0
theorem sHB:∀ s r,pHB s = true -> (fHB s).run = some r -> r.1 ≠ .normal /\ (runB Try.prog TC3 60 38 (lpb Try.f38 4) [3,13,14,15] [3] (shHB.put s).1 (shHB.put s).2 = some r \/
   ∃ s',runB Try.prog TC3 60 38 (lpb Try.f38 4) [3,13,14,15] [3] (shHB.put s).1 (shHB.put s).2 = some (.normal,shHB.put s') /\ pHB s' = true /\ mHB s' < mHB s /\ (fHB s').run = some r):=by
 intro t r hp hr
 unfold pHB at hp; split at hp
 ·rename_i f G l i D0 D
  simp only [Bool.and_eq_true,decide_eq_true_eq] at hp
  obtain ⟨⟨h1,rfl⟩,h3⟩:=hp
  have hr':=(Option.some.inj hr).symm
  refine ⟨by rw [hr']; simp,?_⟩
  rw [show shHB.put ([.l f G,.i (G.length:Int),.i i],[.m D0,.m D]) = shHB.put (lHB f G (G.length:Int) i D0 D) from rfl,qHB]
  have hb:=bigG_len h3
  by_cases hi:i < (G.length:Int)
  ·obtain ⟨q,hq⟩:∃ q,((G.length:Int) - i).toNat = q + 1:=⟨((G.length:Int) - i).toNat - 1,by omega⟩
   have hq2:((G.length:Int) - (i + 1)).toNat = q:=by omega
   rw [hq] at hr'
   have he:=bigG_at h3 h1 hi
   rw [decide_eq_true hi,cond_true,inr_of h1 hi,cond_true,W_id (n:=i + 1) (by omega) (by omega),show pGB (lGB i f G (G.length:Int) i false (gEl G i) ((gEl G i).length:Int) 0 D0 D) = true by simp only [pGB,Bool.and_eq_true,decide_eq_true_eq]; exact ⟨⟨Int.le_refl _,trivial⟩,he⟩,
    show (((gEl G i).length:Int) - 0).toNat = (gEl G i).length by omega]
   refine .inr ⟨lHB f G (G.length:Int) (i + 1) D0 (gp1 (gEl G i) i 0 (gEl G i).length D),rfl,by simp only [pHB,Bool.and_eq_true,decide_eq_true_eq]; exact ⟨⟨by omega,trivial⟩,h3⟩,by simp only [mHB]; omega,?_⟩
   rw [hr']
   simp only [fHB,hq2,gpA]
   rfl
  ·rw [decide_eq_false hi]
   rw [show ((G.length:Int) - i).toNat = 0 by omega] at hr'
   exact .inl (by rw [hr']; rfl)
 ·cases hp
noncomputable def TC4:EnvK:=TC3.addW 38 4 [3,13,14,15] [] shHB pHB fHB
theorem okTC4:EnvOK Try.prog TC4.env:=
 okTC3.addW (n:=60) Try.func38 (show Try.f38.body = some (bod Try.f38) by kernel_rfl) (show (loops (bod Try.f38)).filter (fun b => rid b == 4) = [lpb Try.f38 4] by kernel_rfl) [3,13,14,15] [3] [] shHB mHB sHB
end Go.Hn
/- Thin: breaks as a contract. -/
namespace Go.Hn
open Go.Hx Go.Hg Go.Proofs
def mgI (D:List (PV × PV)) (x:Int):Int:=((mget (iv 0) D (iv x)).cellAt 0).getI
def koI (i a:Int):Int:=bif decide (i > a) then W (i - 1) else i
def shK1:Hx.S1:=⟨57,[(1,I64),(5,.mp 0),(6,.mp 1),(7,.mp 2),(20,I64),(21,I64)],[.map 3 3,.map 3 3,.map 3 3]⟩
abbrev lK1 (a n i:Int) (D E A:List (PV × PV)):LS:=([.i a,.i n,.i i],[.m D,.m E,.m A])
noncomputable abbrev hK1 (D E A:List (PV × PV)):List Row:=(shK1.put (lK1 0 0 0 D E A)).2
theorem qK1 (a n i:Int) (D E A:List (PV × PV)):runB Try.prog TC4 60 19 (lpb Try.f19 5) [1,5,6,7,20,21] [4] (shK1.put (lK1 a n i D E A)).1 (shK1.put (lK1 a n i D E A)).2 =
 bif decide (i < n) then bif i == a then some (.normal,shK1.put (lK1 a n (W (i + 1)) D E A)) else
  bif decide (i > a) then
   bif mhas A (iv (mgI D i)) then bif mgI A (mgI D i) != mgI E (W (i - 1)) then some (.ret,tm 57 [(4,bv true)],hK1 D E A) else some (.normal,shK1.put (lK1 a n (W (i + 1)) D E (mput A (iv (mgI D i)) (iv (mgI E (W (i - 1)))))))
   else some (.normal,shK1.put (lK1 a n (W (i + 1)) D E (mput A (iv (mgI D i)) (iv (mgI E (W (i - 1)))))))
  else bif mhas A (iv (mgI D i)) then bif mgI A (mgI D i) != mgI E i then some (.ret,tm 57 [(4,bv true)],hK1 D E A) else some (.normal,shK1.put (lK1 a n (W (i + 1)) D E (mput A (iv (mgI D i)) (iv (mgI E i)))))
   else some (.normal,shK1.put (lK1 a n (W (i + 1)) D E (mput A (iv (mgI D i)) (iv (mgI E i)))))
 else some (.exit 0,tm 57 [],hK1 D E A):=by kernel_rfl
def brk (a:Int) (D E:List (PV × PV)):Int -> Nat -> List (PV × PV) -> Bool
 | _,0,_ => false
 | i,n + 1,A => bif i == a then brk a D E (i + 1) n A else
  (mhas A (iv (mgI D i)) && (mgI A (mgI D i) != mgI E (koI i a))) || brk a D E (i + 1) n (mput A (iv (mgI D i)) (iv (mgI E (koI i a))))
def brA (a:Int) (D E:List (PV × PV)):Int -> Nat -> List (PV × PV) -> List (PV × PV)
 | _,0,A => A
 | i,n + 1,A => bif i == a then brA a D E (i + 1) n A else
  bif mhas A (iv (mgI D i)) && (mgI A (mgI D i) != mgI E (koI i a)) then A else brA a D E (i + 1) n (mput A (iv (mgI D i)) (iv (mgI E (koI i a))))
def pK1:LS -> Bool
 | ([.i _,.i n,.i i],[.m _,.m _,.m _]) => decide (0 <= i) && decide (n <= 1000)
 | _ => false
noncomputable def fK1:LS -> DT (PX × List PV × List Row)
 | ([.i a,.i n,.i i],[.m D,.m E,.m A]) => .br (brk a D E i (n - i).toNat A) (.leaf (.ret,tm 57 [(4,bv true)],hK1 D E (brA a D E i (n - i).toNat A))) (.leaf (.exit 0,tm 57 [],hK1 D E (brA a D E i (n - i).toNat A)))
 | _ => .no
def mK1:LS -> Nat
 | ([.i _,.i n,.i i],[.m _,.m _,.m _]) => (n - i).toNat
 | _ => 0
theorem sK1:∀ s r,pK1 s = true -> (fK1 s).run = some r -> r.1 ≠ .normal /\ (runB Try.prog TC4 60 19 (lpb Try.f19 5) [1,5,6,7,20,21] [4] (shK1.put s).1 (shK1.put s).2 = some r \/
   ∃ s',runB Try.prog TC4 60 19 (lpb Try.f19 5) [1,5,6,7,20,21] [4] (shK1.put s).1 (shK1.put s).2 = some (.normal,shK1.put s') /\ pK1 s' = true /\ mK1 s' < mK1 s /\ (fK1 s').run = some r):=by
 intro t r hp hr
 unfold pK1 at hp; split at hp
 ·rename_i a n i D E A
  simp only [Bool.and_eq_true,decide_eq_true_eq] at hp
  obtain ⟨h1,h3⟩:=hp
  have hr':=run_br2 hr
  refine ⟨by rw [hr']; cases brk a D E i (n - i).toNat A <;> simp,?_⟩
  rw [show shK1.put ([.i a,.i n,.i i],[.m D,.m E,.m A]) = shK1.put (lK1 a n i D E A) from rfl,qK1]
  by_cases hi:i < n
  ·obtain ⟨q,hq⟩:∃ q,(n - i).toNat = q + 1:=⟨(n - i).toNat - 1,by omega⟩
   have hq2:(n - (i + 1)).toNat = q:=by omega
   have hw:W (i + 1) = i + 1:=W_id (by omega) (by omega)
   rw [hq] at hr'
   unfold brk brA at hr'
   rw [decide_eq_true hi,cond_true,hw]
   have nx:∀ A',r = (bif brk a D E (i + 1) q A' then (.ret,tm 57 [(4,bv true)],hK1 D E (brA a D E (i + 1) q A')) else (.exit 0,tm 57 [],hK1 D E (brA a D E (i + 1) q A'))) ->
     ∃ s',some (PX.normal,shK1.put (lK1 a n (i + 1) D E A')) = some (PX.normal,shK1.put s') /\ pK1 s' = true /\ mK1 s' < mK1 ([.i a,.i n,.i i],[.m D,.m E,.m A]) /\ (fK1 s').run = some r:=fun A' hA' => by
    refine ⟨lK1 a n (i + 1) D E A',rfl,by simp only [pK1,Bool.and_eq_true,decide_eq_true_eq]; omega,by simp only [mK1]; omega,?_⟩
    rw [hA']
    simp only [fK1,hq2]
    cases brk a D E (i + 1) q A' <;> rfl
   have tl:∀ l:Int,koI i a = l -> (i == a) = false -> (bif mhas A (iv (mgI D i)) then bif mgI A (mgI D i) != mgI E l then some (PX.ret,tm 57 [(4,bv true)],hK1 D E A) else some (.normal,shK1.put (lK1 a n (i + 1) D E (mput A (iv (mgI D i)) (iv (mgI E l)))))
     else some (.normal,shK1.put (lK1 a n (i + 1) D E (mput A (iv (mgI D i)) (iv (mgI E l)))))) = some r \/ ∃ s',(bif mhas A (iv (mgI D i)) then bif mgI A (mgI D i) != mgI E l then some (PX.ret,tm 57 [(4,bv true)],hK1 D E A) else some (.normal,shK1.put (lK1 a n (i + 1) D E (mput A (iv (mgI D i)) (iv (mgI E l)))))
     else some (.normal,shK1.put (lK1 a n (i + 1) D E (mput A (iv (mgI D i)) (iv (mgI E l)))))) = some (.normal,shK1.put s') /\ pK1 s' = true /\ mK1 s' < mK1 ([.i a,.i n,.i i],[.m D,.m E,.m A]) /\ (fK1 s').run = some r:=fun l hl hia => by
    rw [hl,hia] at hr'
    simp only [cond_false] at hr'
    cases hm:mhas A (iv (mgI D i)) with
    | false => rw [hm] at hr'; exact .inr (nx _ (by simpa using hr'))
    | true =>
     rw [hm] at hr'
     cases hne:(mgI A (mgI D i) != mgI E l) with
     | true => rw [hne] at hr'; exact .inl (by rw [hr']; rfl)
     | false => rw [hne] at hr'; exact .inr (nx _ (by simpa using hr'))
   cases hia:i == a with
   | true => rw [hia] at hr'; exact .inr (nx A hr')
   | false =>
    rw [cond_false]
    by_cases hg:i > a
    ·rw [decide_eq_true hg]
     exact tl (W (i - 1)) (by unfold koI; rw [decide_eq_true hg]; rfl) hia
    ·rw [decide_eq_false hg]
     exact tl i (by unfold koI; rw [decide_eq_false hg]; rfl) hia
  ·rw [decide_eq_false hi]
   rw [show (n - i).toNat = 0 by omega] at hr'
   exact .inl (by rw [hr']; rfl)
 ·cases hp
noncomputable def TD0:EnvK:=TC4.addW 19 5 [1,5,6,7,20,21] [] shK1 pK1 fK1
theorem okTD0:EnvOK Try.prog TD0.env:=
 okTC4.addW (n:=60) Try.func19 (show Try.f19.body = some (bod Try.f19) by kernel_rfl) (show (loops (bod Try.f19)).filter (fun b => rid b == 5) = [lpb Try.f19 5] by kernel_rfl) [1,5,6,7,20,21] [4] [] shK1 mK1 sK1
def grM (ws:List PV):List (PV × PV):=gpA (grpL (nuW 0 ws)) 0 (grpL (nuW 0 ws)).length []
def brB (ws:List PV) (a:Int):Bool:=brk a (grM ws) (grM (ws.eraseIdx a.toNat)) 0 ws.length []
theorem qBr (f:Bool) (ws:List PV) (a:Int):runP Try.prog TD0 100 19 [.lst f 36 ws,iv a] =
 bif decide (ws.length <= 6) then bif okW (nuW 0 ws) then bif pHA (lHA false (grpL (nuW 0 ws)) ((grpL (nuW 0 ws)).length:Int) 0 []) then
  bif decide (ws.length <= 6) && decide (0 <= a) && decide (a < (ws.length:Int)) then
  bif decide ((ws.eraseIdx a.toNat).length <= 6) then bif okW (nuW 0 (ws.eraseIdx a.toNat)) then bif pHB (lHB false (grpL (nuW 0 (ws.eraseIdx a.toNat))) ((grpL (nuW 0 (ws.eraseIdx a.toNat))).length:Int) 0 (gpA (grpL (nuW 0 ws)) 0 (((grpL (nuW 0 ws)).length:Int) - 0).toNat []) []) then
   bif pK1 (lK1 a (ws.length:Int) 0 (gpA (grpL (nuW 0 ws)) 0 (((grpL (nuW 0 ws)).length:Int) - 0).toNat []) (gpA (grpL (nuW 0 (ws.eraseIdx a.toNat))) 0 (((grpL (nuW 0 (ws.eraseIdx a.toNat))).length:Int) - 0).toNat []) []) then
    bif brk a (gpA (grpL (nuW 0 ws)) 0 (((grpL (nuW 0 ws)).length:Int) - 0).toNat []) (gpA (grpL (nuW 0 (ws.eraseIdx a.toNat))) 0 (((grpL (nuW 0 (ws.eraseIdx a.toNat))).length:Int) - 0).toNat []) 0 ((ws.length:Int) - 0).toNat [] then some (bv true) else some (bv false)
   else none else none else none else none else none else none else none else none:=by kernel_rfl
end Go.Hn
/- Network: plain law of what is reached by joints. -/
namespace Go.Hn
open Go.Hx Go.Hg Go.Proofs
def jnW (e e':PV):Bool:=jn (wL e) (wLv e) (wL e') (wLv e')
end Go.Hn
/- Thin: breaks as a contract; Can: the ways of the district. -/
namespace Go.Hn
open Go.Hx Go.Hg Go.Proofs
theorem nuW_okW {ws:List PV} (h:okW ws = true):∀ k,okW (nuW k ws) = true:=by
 intro k
 obtain ⟨h1,h2⟩:=okW_iff h
 unfold okW
 simp only [Bool.and_eq_true,decide_eq_true_eq,List.all_eq_true]
 refine ⟨by rw [nuW_len]; exact h1,?_⟩
 clear h h1
 induction ws generalizing k with
 | nil => intro e he; cases he
 | cons a ws ih =>
  intro e he
  rcases List.mem_cons.1 he with rfl | he
  ·exact h2 a (List.mem_cons_self ..)
  ·exact ih (k + 1) (fun x hx => h2 x (List.mem_cons_of_mem _ hx)) e he
theorem okW_erase {ws:List PV} (h:okW ws = true) (k:Nat):okW (ws.eraseIdx k) = true:=by
 obtain ⟨h1,h2⟩:=okW_iff h
 unfold okW
 simp only [Bool.and_eq_true,decide_eq_true_eq,List.all_eq_true]
 exact ⟨Nat.le_trans (List.length_eraseIdx_le ..) h1,fun e he => h2 e (List.mem_of_mem_eraseIdx he)⟩
def okBr (ws:List PV) (a:Int):Bool:=okW ws && (decide (0 <= a) && decide (a < (ws.length:Int)))
theorem qBr' (f:Bool) (ws:List PV) (a:Int) (h:okBr ws a = true):runP Try.prog TD0 100 19 [.lst f 36 ws,iv a] = some (bv (brB ws a)):=by
 unfold okBr at h
 simp only [Bool.and_eq_true,decide_eq_true_eq] at h
 obtain ⟨hw,h1,h2⟩:=h
 have h6:=(okW_iff hw).1
 have k1:=nuW_okW hw 0
 have k2:=nuW_okW (okW_erase hw a.toNat) 0
 have h7:=(okW_iff (okW_erase hw a.toNat)).1
 rw [qBr,decide_eq_true h6,k1,show pHA (lHA false (grpL (nuW 0 ws)) ((grpL (nuW 0 ws)).length:Int) 0 []) = true by simp only [pHA,Bool.and_eq_true,decide_eq_true_eq]; exact ⟨⟨Int.le_refl _,trivial⟩,okG_of k1⟩,
  decide_eq_true h1,decide_eq_true h2,decide_eq_true h7,k2,
  show ∀ D,pHB (lHB false (grpL (nuW 0 (ws.eraseIdx a.toNat))) ((grpL (nuW 0 (ws.eraseIdx a.toNat))).length:Int) 0 D []) = true from fun D => by simp only [pHB,Bool.and_eq_true,decide_eq_true_eq]; exact ⟨⟨Int.le_refl _,trivial⟩,okG_of k2⟩,
  show ∀ D E A,pK1 (lK1 a (ws.length:Int) 0 D E A) = true from fun D E A => by simp only [pK1,Bool.and_eq_true,decide_eq_true_eq]; omega]
 unfold brB grM
 simp only [cond_true,Bool.and_self,Int.sub_zero,Int.toNat_natCast]
 cases brk a (gpA (grpL (nuW 0 ws)) 0 (grpL (nuW 0 ws)).length []) (gpA (grpL (nuW 0 (ws.eraseIdx a.toNat))) 0 (grpL (nuW 0 (ws.eraseIdx a.toNat))).length []) 0 ws.length [] <;> rfl
def cBr:List PV -> Option (DT PV)
 | [.lst _ 36 ws,.val (.int .i64 a)] => some (.br (okBr ws a) (.leaf (bv (brB ws a))) .no)
 | _ => none
theorem eBr:Hx.Enters Try.prog 19:=enters_of Try.func19 (show Try.f19.body = some (bod Try.f19) by kernel_rfl) (by kernel_rfl)
theorem oBr (args:List PV) (d:DT PV) (r:PV) (h:cBr args = some d) (hr:d.run = some r):PCall Try.prog 19 args r:=by
 unfold cBr at h; split at h
 ·cases h
  obtain ⟨h1,rfl⟩:=run_br hr
  exact (runP_sound okTD0 (n:=100) (qBr' _ _ _ h1)).2
 ·cases h
noncomputable def TE0:EnvK:=((((TB1.addF 19 cBr).addF 14 cJnd).addN 9 7 [(8,36,8)]).addChain 9 19).addSoft 9 19
theorem okTE0:EnvOK Try.prog TE0.env:=EnvOK.addSoft ((((okTB1.addF eBr oBr).addF eJnd oJnd).addN 9 7 [(8,36,8)]).addChain 9 19) 9 19
abbrev wDs (e:PV):Int:=(e.cellAt 7).getI
abbrev wNm (e:PV):ByteArray:=(e.cellAt 4).getS
abbrev mapX:Hx.X1:=.agg [.lst 66,.lst 71,.lst 36,.lst 77]
def shL1:Hx.S1:=⟨97,[(2,.ptr 0 1 0 0),(5,I64),(6,.ptr 1 1 0 0),(7,.bool),(8,.sl 2),(9,I64),(29,.lst 36),(30,I64),(31,I64)],[.one 30 4 mapX,.onef 36 8 wayX,.many 36 8]⟩
abbrev lL1 (a:Int) (b:Bool) (n l:Nat) (pl:Int) (f:Bool) (ws:List PV) (N i:Int) (fa:Bool) (es:List PV) (fb:Bool) (bs:List PV) (fw:Bool) (vs:List PV) (fd:Bool) (ds:List PV) (w:PV) (nl:Bool) (os:List PV):LS:=
 ([.i a,.b b,.n n,.n l,.i pl,.l f ws,.i N,.i i],[.l fa es,.l fb bs,.l fw vs,.l fd ds,.i (wI w),.l false (wL w),.i (wLv w),.s ((w.cellAt 3).getS),.s ((w.cellAt 4).getS),.b ((w.cellAt 5).getB),.i ((w.cellAt 6).getI),.i ((w.cellAt 7).getI),.l nl os])
def ownN (os:List PV) (n l:Nat) (k:Option (PX × List PV × List Row)):Option (PX × List PV × List Row):=bif decide (os.length = n) && decide (n = l) && decide ((n + 1) * 96 <= 140737488355328) then k else none
theorem qL1 (a:Int) (b:Bool) (n l:Nat) (pl:Int) (f:Bool) (ws:List PV) (N i:Int) (fa:Bool) (es:List PV) (fb:Bool) (bs:List PV) (fw:Bool) (vs:List PV) (fd:Bool) (ds:List PV) (w:PV) (nl:Bool) (os:List PV):
 runB Try.prog TE0 60 9 (lpb Try.f9 7) [2,5,6,7,8,9,29,30,31] [2,6,7,8,9] (shL1.put (lL1 a b n l pl f ws N i fa es fb bs fw vs fd ds w nl os)).1 (shL1.put (lL1 a b n l pl f ws N i fa es fb bs fw vs fd ds w nl os)).2 =
 bif decide (i < N) then bif inr ws i then bif wDs (ws.getD i.toNat .any) != wDs w then
   bif b then some (.normal,shL1.put (lL1 a true n l pl f ws N (W (i + 1)) fa es fb bs fw vs fd ds w nl os)) else
    bif bigL (wL (ws.getD i.toNat .any)) && bigL (wL w) then some (.normal,shL1.put (lL1 a (jnW (ws.getD i.toNat .any) w) n l pl f ws N (W (i + 1)) fa es fb bs fw vs fd ds w nl os)) else none
  else bif i == a then ownN os n l (some (.normal,shL1.put (lL1 a b (n + 1) (n + 1) (l:Int) f ws N (W (i + 1)) fa es fb bs fw vs fd ds w (nl && false) (os ++ [nbE (wI (ws.getD i.toNat .any)) (ws.getD i.toNat .any)]))))
  else ownN os n l (some (.normal,shL1.put (lL1 a b (n + 1) (n + 1) pl f ws N (W (i + 1)) fa es fb bs fw vs fd ds w (nl && false) (os ++ [nbE (wI (ws.getD i.toNat .any)) (ws.getD i.toNat .any)])))) else none
 else some (.exit 0,tm 97 [(2,.ptr 0 1 0 0),(6,.ptr 1 1 0 0),(7,bv b),(8,.sl 2 n 0 l),(9,iv pl)],(shL1.put (lL1 a b n l pl f ws N i fa es fb bs fw vs fd ds w nl os)).2):=by kernel_rfl
end Go.Hn
/- Thin: Can: the first loop as a contract; the titles. -/
namespace Go.Hn
open Go.Hx Go.Hg Go.Proofs
def odB (ws:List PV) (w:PV) (i:Int):Bool:=wDs (ws.getD i.toNat .any) != wDs w
def bdr (ws:List PV) (w:PV):Int -> Nat -> Bool -> Bool
 | _,0,b => b
 | i,n + 1,b => bdr ws w (i + 1) n (bif odB ws w i then b || jnW (ws.getD i.toNat .any) w else b)
def owl (ws:List PV) (w:PV):Int -> Nat -> List PV
 | _,0 => []
 | i,n + 1 => bif odB ws w i then owl ws w (i + 1) n else nbE (wI (ws.getD i.toNat .any)) (ws.getD i.toNat .any) :: owl ws w (i + 1) n
def plc (ws:List PV) (w:PV) (a:Int):Int -> Nat -> Int -> Int -> Int
 | _,0,_,pl => pl
 | i,n + 1,c,pl => bif odB ws w i then plc ws w a (i + 1) n c pl else plc ws w a (i + 1) n (c + 1) (bif i == a then c else pl)
theorem owl_len (ws:List PV) (w:PV):∀ (n:Nat) (i:Int),(owl ws w i n).length <= n
 | 0,_ => Nat.le_refl _
 | n + 1,i => by
  have:=owl_len ws w n (i + 1)
  unfold owl
  cases odB ws w i <;> simp only [cond_true,cond_false,List.length_cons] <;> omega
def pL1:LS -> Bool
 | ([.i _,.b _,.n n,.n l,.i _,.l _ ws,.i N,.i i],[.l _ _,.l _ _,.l _ _,.l _ _,.i _,.l _ M,.i _,.s _,.s _,.b _,.i _,.i _,.l _ os]) =>
  decide (0 <= i) && decide (N = (ws.length:Int)) && decide (ws.length <= 1000) && decide (n = os.length) && decide (l = n) && decide ((n:Int) <= i) && (okB ws && bigL M)
 | _ => false
abbrev wyE (id:Int) (M:List PV) (lv:Int) (c nm:ByteArray) (s:Bool) (wt ds:Int):PV:=.agg [iv id,.lst false 46 M,iv lv,.val (.string c),.val (.string nm),bv s,iv wt,iv ds]
noncomputable def fL1:LS -> DT (PX × List PV × List Row)
 | ([.i a,.b b,.n n,.n _,.i pl,.l f ws,.i N,.i i],[.l fa es,.l fb bs,.l fw vs,.l fd ds,.i id,.l false M,.i lv,.s c,.s nm,.b s,.i wt,.i di,.l nl os]) =>
  .leaf (.exit 0,tm 97 [(2,.ptr 0 1 0 0),(6,.ptr 1 1 0 0),(7,bv (bdr ws (wyE id M lv c nm s wt di) i (N - i).toNat b)),(8,.sl 2 (n + (owl ws (wyE id M lv c nm s wt di) i (N - i).toNat).length) 0 (n + (owl ws (wyE id M lv c nm s wt di) i (N - i).toNat).length)),(9,iv (plc ws (wyE id M lv c nm s wt di) a i (N - i).toNat n pl))],
   (shL1.put (lL1 a b n n pl f ws N i fa es fb bs fw vs fd ds (wyE id M lv c nm s wt di) (nl && (owl ws (wyE id M lv c nm s wt di) i (N - i).toNat).isEmpty) (os ++ owl ws (wyE id M lv c nm s wt di) i (N - i).toNat))).2)
 | _ => .no
def mL1:LS -> Nat
 | ([.i _,.b _,.n _,.n _,.i _,.l _ _,.i N,.i i],[.l _ _,.l _ _,.l _ _,.l _ _,.i _,.l _ _,.i _,.s _,.s _,.b _,.i _,.i _,.l _ _]) => (N - i).toNat
 | _ => 0
theorem sL1:∀ s r,pL1 s = true -> (fL1 s).run = some r -> r.1 ≠ .normal /\ (runB Try.prog TE0 60 9 (lpb Try.f9 7) [2,5,6,7,8,9,29,30,31] [2,6,7,8,9] (shL1.put s).1 (shL1.put s).2 = some r \/
   ∃ s',runB Try.prog TE0 60 9 (lpb Try.f9 7) [2,5,6,7,8,9,29,30,31] [2,6,7,8,9] (shL1.put s).1 (shL1.put s).2 = some (.normal,shL1.put s') /\ pL1 s' = true /\ mL1 s' < mL1 s /\ (fL1 s').run = some r):=by
 intro t r hp hr
 unfold pL1 at hp; split at hp
 ·rename_i a b n l pl f ws N i fa es fb bs fw vs fd ds id fM M lv c nm s wt di nl os
  cases fM with
  | true => cases hr
  | false =>
  simp only [Bool.and_eq_true,decide_eq_true_eq] at hp
  obtain ⟨⟨⟨⟨⟨⟨h1,rfl⟩,h3⟩,rfl⟩,rfl⟩,h6⟩,h7,h8⟩:=hp
  have hr':=(Option.some.inj hr).symm
  refine ⟨by rw [hr']; simp,?_⟩
  generalize hW:wyE id M lv c nm s wt di = w at hr'
  have hWL:wL w = M:=by rw [<- hW]; rfl
  rw [show shL1.put ([.i a,.b b,.n os.length,.n os.length,.i pl,.l f ws,.i (ws.length:Int),.i i],[.l fa es,.l fb bs,.l fw vs,.l fd ds,.i id,.l false M,.i lv,.s c,.s nm,.b s,.i wt,.i di,.l nl os]) = shL1.put (lL1 a b os.length os.length pl f ws (ws.length:Int) i fa es fb bs fw vs fd ds w nl os) by rw [<- hW]; rfl,qL1]
  by_cases hi:i < (ws.length:Int)
  ·obtain ⟨q,hq⟩:∃ q,((ws.length:Int) - i).toNat = q + 1:=⟨((ws.length:Int) - i).toNat - 1,by omega⟩
   have hq2:((ws.length:Int) - (i + 1)).toNat = q:=by omega
   rw [hq] at hr'
   have he:bigL (wL (ws.getD i.toNat .any)) = true:=okB_at h7 h1 hi
   have hroom:∀ k,ownN os os.length os.length k = k:=fun k => by unfold ownN; simp only [decide_true,Bool.true_and]; rw [decide_eq_true (show (os.length + 1) * 96 <= 140737488355328 by omega)]; rfl
   rw [decide_eq_true hi,cond_true,inr_of h1 hi,cond_true,W_id (n:=i + 1) (by omega) (by omega),he,hWL,show bigL M = true from decide_eq_true h8]
   simp only [bdr,owl,plc] at hr'
   have hod:(wDs (ws.getD i.toNat .any) != wDs w) = odB ws w i:=rfl
   rw [hod]
   cases ho:odB ws w i with
   | true =>
    rw [ho] at hr'
    simp only [cond_true] at hr' ⊢
    have nx:(bif b then some (PX.normal,shL1.put (lL1 a true os.length os.length pl f ws (ws.length:Int) (i + 1) fa es fb bs fw vs fd ds w nl os)) else some (PX.normal,shL1.put (lL1 a (jnW (ws.getD i.toNat .any) w) os.length os.length pl f ws (ws.length:Int) (i + 1) fa es fb bs fw vs fd ds w nl os)))
      = some (PX.normal,shL1.put (lL1 a (b || jnW (ws.getD i.toNat .any) w) os.length os.length pl f ws (ws.length:Int) (i + 1) fa es fb bs fw vs fd ds w nl os)):=by cases b <;> rfl
    refine .inr ⟨lL1 a (b || jnW (ws.getD i.toNat .any) w) os.length os.length pl f ws (ws.length:Int) (i + 1) fa es fb bs fw vs fd ds w nl os,nx,by
     rw [<- hW]; simp only [pL1,Bool.and_eq_true,decide_eq_true_eq]; exact ⟨⟨⟨⟨⟨⟨by omega,trivial⟩,h3⟩,trivial⟩,trivial⟩,by omega⟩,h7,h8⟩,by simp only [mL1]; omega,?_⟩
    rw [hr',<- hW]
    simp only [fL1,hq2]
    rfl
   | false =>
    rw [ho] at hr'
    simp only [cond_false,hroom] at hr' ⊢
    have nx:(bif i == a then some (PX.normal,shL1.put (lL1 a b (os.length + 1) (os.length + 1) (os.length:Int) f ws (ws.length:Int) (i + 1) fa es fb bs fw vs fd ds w (nl && false) (os ++ [nbE (wI (ws.getD i.toNat .any)) (ws.getD i.toNat .any)])))
      else some (PX.normal,shL1.put (lL1 a b (os.length + 1) (os.length + 1) pl f ws (ws.length:Int) (i + 1) fa es fb bs fw vs fd ds w (nl && false) (os ++ [nbE (wI (ws.getD i.toNat .any)) (ws.getD i.toNat .any)]))))
      = some (PX.normal,shL1.put (lL1 a b (os.length + 1) (os.length + 1) (bif i == a then (os.length:Int) else pl) f ws (ws.length:Int) (i + 1) fa es fb bs fw vs fd ds w false (os ++ [nbE (wI (ws.getD i.toNat .any)) (ws.getD i.toNat .any)]))):=by
     rw [Bool.and_false]; cases i == a <;> rfl
    refine .inr ⟨lL1 a b (os.length + 1) (os.length + 1) (bif i == a then (os.length:Int) else pl) f ws (ws.length:Int) (i + 1) fa es fb bs fw vs fd ds w false (os ++ [nbE (wI (ws.getD i.toNat .any)) (ws.getD i.toNat .any)]),nx,by
     rw [<- hW]; simp only [pL1,Bool.and_eq_true,decide_eq_true_eq,List.length_append,List.length_cons,List.length_nil]; exact ⟨⟨⟨⟨⟨⟨by omega,trivial⟩,h3⟩,trivial⟩,trivial⟩,by omega⟩,h7,h8⟩,by simp only [mL1]; omega,?_⟩
    rw [hr',<- hW]
    simp only [fL1,hq2,List.append_assoc,List.cons_append,List.nil_append,Bool.false_and,List.length_cons,List.isEmpty_cons,Bool.and_false]
    rw [show ∀ m:Nat,os.length + 1 + m = os.length + (m + 1) from fun m => by omega,show ((os.length + 1:Nat):Int) = (os.length:Int) + 1 by omega]
    rfl
  ·rw [decide_eq_false hi]
   rw [show ((ws.length:Int) - i).toNat = 0 by omega] at hr'
   exact .inl (by rw [hr',<- hW]; simp [owl,bdr,plc])
 ·cases hp
noncomputable def TF0:EnvK:=TE0.addW 9 7 [2,5,6,7,8,9,29,30,31] [] shL1 pL1 fL1
theorem okTF0:EnvOK Try.prog TF0.env:=
 okTE0.addW (n:=60) Try.func9 (show Try.f9.body = some (bod Try.f9) by kernel_rfl) (show (loops (bod Try.f9)).filter (fun b => rid b == 7) = [lpb Try.f9 7] by kernel_rfl) [2,5,6,7,8,9,29,30,31] [2,6,7,8,9] [] shL1 mL1 sL1
abbrev ttE (e:PV):PV:=.agg [iv (wDs e),.val (.string (wNm e))]
def shL2:Hx.S1:=⟨97,[(6,.ptr 1 1 0 0),(7,.bool),(8,.sl 2),(9,I64),(12,.mp 3),(60,.lst 36),(61,I64),(62,I64)],[.one 30 4 mapX,.onef 36 8 wayX,.many 36 8,.map 61 3]⟩
abbrev lL2 (b:Bool) (n l:Nat) (pl:Int) (f:Bool) (ws:List PV) (N i:Int) (fa:Bool) (es:List PV) (fb:Bool) (bs:List PV) (fw:Bool) (vs:List PV) (fd:Bool) (ds:List PV) (id:Int) (g:Bool) (M:List PV) (lv:Int) (c nm:ByteArray) (s:Bool) (wt di:Int) (nl:Bool) (os:List PV) (D:List (PV × PV)):LS:=
 ([.b b,.n n,.n l,.i pl,.l f ws,.i N,.i i],[.l fa es,.l fb bs,.l fw vs,.l fd ds,.i id,.l g M,.i lv,.s c,.s nm,.b s,.i wt,.i di,.l nl os,.m D])
def ttN (D:List (PV × PV)) (k:PV):List (PV × PV):=mset (mins (iv 0) D k) (midxN D k:Int).toNat (iv (W (((mget (iv 0) D k).cellAt 0).getI + 1)))
def ttB (D:List (PV × PV)) (k:PV):Bool:=decide (0 <= (midxN D k:Int)) && decide ((midxN D k:Int) < ((mins (iv 0) D k).length:Int))
theorem qL2 (b:Bool) (n l:Nat) (pl:Int) (f:Bool) (ws:List PV) (N i:Int) (fa:Bool) (es:List PV) (fb:Bool) (bs:List PV) (fw:Bool) (vs:List PV) (fd:Bool) (ds:List PV) (id:Int) (g:Bool) (M:List PV) (lv:Int) (c nm:ByteArray) (s:Bool) (wt di:Int) (nl:Bool) (os:List PV) (D:List (PV × PV)):
 runB Try.prog TF0 60 9 (lpb Try.f9 17) [6,7,8,9,12,60,61,62] [6,7,8,9,12] (shL2.put (lL2 b n l pl f ws N i fa es fb bs fw vs fd ds id g M lv c nm s wt di nl os D)).1 (shL2.put (lL2 b n l pl f ws N i fa es fb bs fw vs fd ds id g M lv c nm s wt di nl os D)).2 =
 bif decide (i < N) then bif inr ws i then bif ttB D (ttE (ws.getD i.toNat .any)) then some (.normal,shL2.put (lL2 b n l pl f ws N (W (i + 1)) fa es fb bs fw vs fd ds id g M lv c nm s wt di nl os (ttN D (ttE (ws.getD i.toNat .any))))) else none else none
 else some (.exit 3,tm 97 [(6,.ptr 1 1 0 0),(7,bv b),(8,.sl 2 n 0 l),(9,iv pl),(12,.mp 3)],(shL2.put (lL2 b n l pl f ws N i fa es fb bs fw vs fd ds id g M lv c nm s wt di nl os D)).2):=by kernel_rfl
end Go.Hn
/- Thin: Can: the titles as a contract. -/
namespace Go.Hn
open Go.Hx Go.Hg Go.Proofs
theorem ttB_true (D:List (PV × PV)) (k:PV):ttB D k = true:=by
 unfold ttB midxN mins
 rw [mhas_idx]
 cases hi:midx D k with
 | none => simp; omega
 | some j =>
  obtain ⟨a,u,g1,_⟩:=midx_some hi
  have:=(List.getElem?_eq_some_iff.1 g1).1
  simp; omega
def ttl (ws:List PV):Int -> Nat -> List (PV × PV) -> List (PV × PV)
 | _,0,D => D
 | i,n + 1,D => ttl ws (i + 1) n (ttN D (ttE (ws.getD i.toNat .any)))
def pL2:LS -> Bool
 | ([.b _,.n _,.n _,.i _,.l _ ws,.i N,.i i],[.l _ _,.l _ _,.l _ _,.l _ _,.i _,.l _ _,.i _,.s _,.s _,.b _,.i _,.i _,.l _ _,.m _]) => decide (0 <= i) && decide (N = (ws.length:Int)) && decide (ws.length <= 1000)
 | _ => false
noncomputable def fL2:LS -> DT (PX × List PV × List Row)
 | ([.b b,.n n,.n l,.i pl,.l f ws,.i N,.i i],[.l fa es,.l fb bs,.l fw vs,.l fd ds,.i id,.l g M,.i lv,.s c,.s nm,.b s,.i wt,.i di,.l nl os,.m D]) =>
  .leaf (.exit 3,tm 97 [(6,.ptr 1 1 0 0),(7,bv b),(8,.sl 2 n 0 l),(9,iv pl),(12,.mp 3)],(shL2.put (lL2 b n l pl f ws N i fa es fb bs fw vs fd ds id g M lv c nm s wt di nl os (ttl ws i (N - i).toNat D))).2)
 | _ => .no
def mL2:LS -> Nat
 | ([.b _,.n _,.n _,.i _,.l _ _,.i N,.i i],[.l _ _,.l _ _,.l _ _,.l _ _,.i _,.l _ _,.i _,.s _,.s _,.b _,.i _,.i _,.l _ _,.m _]) => (N - i).toNat
 | _ => 0
theorem sL2:∀ s r,pL2 s = true -> (fL2 s).run = some r -> r.1 ≠ .normal /\ (runB Try.prog TF0 60 9 (lpb Try.f9 17) [6,7,8,9,12,60,61,62] [6,7,8,9,12] (shL2.put s).1 (shL2.put s).2 = some r \/
   ∃ s',runB Try.prog TF0 60 9 (lpb Try.f9 17) [6,7,8,9,12,60,61,62] [6,7,8,9,12] (shL2.put s).1 (shL2.put s).2 = some (.normal,shL2.put s') /\ pL2 s' = true /\ mL2 s' < mL2 s /\ (fL2 s').run = some r):=by
 intro t r hp hr
 unfold pL2 at hp; split at hp
 ·rename_i b n l pl f ws N i fa es fb bs fw vs fd ds id g M lv c nm s wt di nl os D
  simp only [Bool.and_eq_true,decide_eq_true_eq] at hp
  obtain ⟨⟨h1,rfl⟩,h3⟩:=hp
  have hr':=(Option.some.inj hr).symm
  refine ⟨by rw [hr']; simp,?_⟩
  rw [show shL2.put ([.b b,.n n,.n l,.i pl,.l f ws,.i (ws.length:Int),.i i],[.l fa es,.l fb bs,.l fw vs,.l fd ds,.i id,.l g M,.i lv,.s c,.s nm,.b s,.i wt,.i di,.l nl os,.m D]) = shL2.put (lL2 b n l pl f ws (ws.length:Int) i fa es fb bs fw vs fd ds id g M lv c nm s wt di nl os D) from rfl,qL2]
  by_cases hi:i < (ws.length:Int)
  ·obtain ⟨q,hq⟩:∃ q,((ws.length:Int) - i).toNat = q + 1:=⟨((ws.length:Int) - i).toNat - 1,by omega⟩
   have hq2:((ws.length:Int) - (i + 1)).toNat = q:=by omega
   rw [hq] at hr'
   rw [decide_eq_true hi,cond_true,inr_of h1 hi,cond_true,ttB_true,cond_true,W_id (n:=i + 1) (by omega) (by omega)]
   refine .inr ⟨lL2 b n l pl f ws (ws.length:Int) (i + 1) fa es fb bs fw vs fd ds id g M lv c nm s wt di nl os (ttN D (ttE (ws.getD i.toNat .any))),rfl,by simp only [pL2,Bool.and_eq_true,decide_eq_true_eq]; exact ⟨⟨by omega,trivial⟩,h3⟩,by simp only [mL2]; omega,?_⟩
   rw [hr']
   simp only [fL2,hq2,ttl]
   rfl
  ·rw [decide_eq_false hi]
   rw [show ((ws.length:Int) - i).toNat = 0 by omega] at hr'
   exact .inl (by rw [hr']; rfl)
 ·cases hp
noncomputable def TG0:EnvK:=TF0.addW 9 17 [6,7,8,9,12,60,61,62] [] shL2 pL2 fL2
theorem okTG0:EnvOK Try.prog TG0.env:=
 okTF0.addW (n:=60) Try.func9 (show Try.f9.body = some (bod Try.f9) by kernel_rfl) (show (loops (bod Try.f9)).filter (fun b => rid b == 17) = [lpb Try.f9 17] by kernel_rfl) [6,7,8,9,12,60,61,62] [6,7,8,9,12] [] shL2 mL2 sL2
end Go.Hn
/- Thin: Can as a plain function, and as a contract. -/
namespace Go.Hn
open Go.Hx Go.Hg Go.Proofs
abbrev nrE (e:PV):PV:=nbE (wI e) e
def ttC (ws:List PV) (e:PV):Int:=((mget (iv 0) (ttl ws 0 ((ws.length:Int) - 0).toNat []) (.agg [iv (wDs e),.val (.string (wNm e))])).cellAt 0).getI
abbrev ownL (ws:List PV) (e:PV):List PV:=((([] ++ owl ws (nrE e) 0 ((ws.length:Int) - 0).toNat).drop 0).take (0 + (owl ws (nrE e) 0 ((ws.length:Int) - 0).toNat).length))
def canT (fa:Bool) (ea:List PV) (fb:Bool) (eb:List PV) (f:Bool) (ws:List PV) (fd:Bool) (ed:List PV) (a:Int) (e:PV):Option PV:=
 bif pL1 (lL1 a (decide (wDs e < 1)) 0 0 0 f ws (ws.length:Int) 0 fa ea fb eb f ws fd ed e true []) then
 bif pL2 (lL2 true 0 0 0 f ws (ws.length:Int) 0 fa ea fb eb f ws fd ed 0 false [] 0 .empty .empty false 0 0 true [] []) then
 bif bdr ws (nrE e) 0 ((ws.length:Int) - 0).toNat (decide (wDs e < 1)) then some (iv 25) else
 bif ([] ++ owl ws (nrE e) 0 ((ws.length:Int) - 0).toNat).length == 0 + (owl ws (nrE e) 0 ((ws.length:Int) - 0).toNat).length then
 bif okBr (ownL ws e) (plc ws (nrE e) a 0 ((ws.length:Int) - 0).toNat 0 0) then bif brB (ownL ws e) (plc ws (nrE e) a 0 ((ws.length:Int) - 0).toNat 0 0) then some (iv 23) else
  bif !((wNm e).toList == (ByteArray.mk #[]).toList) then bif decide (ttC ws e < 2) then some (iv 24) else some (iv 0) else some (iv 0)
 else none else none else none else none
theorem qCan (fa:Bool) (ea:List PV) (fb:Bool) (eb:List PV) (f:Bool) (ws:List PV) (fd:Bool) (ed:List PV) (id:Int):runP Try.prog TG0 100 9 [.agg [.lst fa 66 ea,.lst fb 71 eb,.lst f 36 ws,.lst fd 77 ed],iv id] =
 bif bigL ws then bif decide (fiW ws id 0 ws.length < 0) then some (iv 5) else bif inr ws (fiW ws id 0 ws.length) then canT fa ea fb eb f ws fd ed (fiW ws id 0 ws.length) (ws.getD (fiW ws id 0 ws.length).toNat .any) else none else none:=by kernel_rfl
end Go.Hn
/- Thin: Can as a contract. -/
namespace Go.Hn
open Go.Hx Go.Hg Go.Proofs
def lsO (t:TypeId):PV -> Option (List PV)
 | .val (.slice none 0 0) => some []
 | .lst _ t' es => if t == t' then some es else none
 | _ => none
theorem lsO_rv {t:TypeId} {p:PV} {es:List PV} (h:lsO t p = some es):∃ f,∀ (C:Ctx) (V:Value),RV Try.prog C p V -> RV Try.prog C (.lst f t es) V:=by
 unfold lsO at h
 split at h
 ·cases h
  refine ⟨false,fun C V hv => ?_⟩
  cases hv
  exact .lst (es:=[]) 0 0 (fun _ _ => undef) (Nat.le_refl _) (fun h => by cases h) (fun h => by simp at h) (fun x e j p h1 _ => by simp at h1) (fun x e j p h1 _ => by simp at h1) (fun e h1 => by cases h1)
 ·split at h
  ·rename_i f t' es' ht
   rw [beq_iff_eq] at ht
   subst ht
   cases h
   exact ⟨f,fun _ _ hv => hv⟩
  ·cases h
 ·cases h
theorem pcall_weak {P:Program} {k:FuncId} {args args':List PV} {r:PV} (h:PCall P k args' r) (hw:∀ (C:Ctx) (Vs:Array Value),Cs P C args Vs -> Cs P C args' Vs):PCall P k args r:=fun C hR Vs hs => h C hR Vs (hw C Vs hs)
def lsM (a b w d:PV):Option (List PV):=match lsO 66 a,lsO 71 b,lsO 36 w,lsO 77 d with | some _,some _,some ws,some _ => some ws | _,_,_,_ => none
theorem lsM_weak {k:FuncId} {a b w d x r:PV} {ws:List PV} (h:lsM a b w d = some ws) (hp:∀ fa ea fb eb f fd ed,PCall Try.prog k [.agg [.lst fa 66 ea,.lst fb 71 eb,.lst f 36 ws,.lst fd 77 ed],x] r):PCall Try.prog k [.agg [a,b,w,d],x] r:=by
 unfold lsM at h
 split at h
 ·rename_i ea eb ws' ed h1 h2 h3 h4
  cases h
  obtain ⟨fa,r1⟩:=lsO_rv h1
  obtain ⟨fb,r2⟩:=lsO_rv h2
  obtain ⟨f,r3⟩:=lsO_rv h3
  obtain ⟨fd,r4⟩:=lsO_rv h4
  refine pcall_weak (hp fa ea fb eb f fd ed) fun C Vs hs => ⟨hs.1,fun j c v g1 g2 => ?_⟩
  match j with
  | 0 =>
   simp only [List.getElem?_cons_zero,Option.some.injEq] at g1
   subst g1
   have hv:=hs.2 0 _ v rfl g2
   cases hv with
   | agg hz hh =>
    refine .agg hz fun j c v q1 q2 => ?_
    match j with
    | 0 => simp at q1; subst q1; exact r1 C v (hh 0 a v rfl q2)
    | 1 => simp at q1; subst q1; exact r2 C v (hh 1 b v rfl q2)
    | 2 => simp at q1; subst q1; exact r3 C v (hh 2 w v rfl q2)
    | 3 => simp at q1; subst q1; exact r4 C v (hh 3 d v rfl q2)
    | j + 4 => simp at q1
  | 1 =>
   simp only [List.getElem?_cons_succ,List.getElem?_cons_zero,Option.some.injEq] at g1
   subst g1
   exact hs.2 1 _ v rfl g2
  | j + 2 => simp at g1
 ·cases h
def okC (ws:List PV):Bool:=okW ws && okB ws
def canE (ws:List PV) (a:Int) (e:PV):Int:=
 bif bdr ws (nrE e) 0 ws.length (decide (wDs e < 1)) then 25 else bif brB (owl ws (nrE e) 0 ws.length) (plc ws (nrE e) a 0 ws.length 0 0) then 23 else
  bif !((wNm e).toList == (ByteArray.mk #[]).toList) && decide (ttC ws e < 2) then 24 else 0
def canW (ws:List PV) (id:Int):Int:=bif decide (fiW ws id 0 ws.length < 0) then 5 else canE ws (fiW ws id 0 ws.length) (ws.getD (fiW ws id 0 ws.length).toNat .any)
theorem plc_done (ws:List PV) (w:PV) (a:Int):∀ (n:Nat) (i c pl:Int),a < i -> plc ws w a i n c pl = pl
 | 0,_,_,_,_ => rfl
 | n + 1,i,c,pl,h => by
  unfold plc
  rw [show (i == a) = false by rw [beq_eq_false_iff_ne]; omega,plc_done ws w a n (i + 1) c pl (by omega),cond_false,plc_done ws w a n (i + 1) (c + 1) pl (by omega)]
  cases odB ws w i <;> rfl
theorem plc_in (ws:List PV) (w:PV) (a:Int) (ho:odB ws w a = false):∀ (n:Nat) (i c pl:Int),i <= a -> a < i + n -> c <= plc ws w a i n c pl /\ plc ws w a i n c pl < c + ((owl ws w i n).length:Int)
 | 0,_,_,_,h1,h2 => by omega
 | n + 1,i,c,pl,h1,h2 => by
  unfold plc owl
  by_cases e:i = a
  ·subst e
   rw [ho,beq_self_eq_true]
   simp only [cond_true,cond_false,List.length_cons]
   rw [plc_done ws w i n (i + 1) (c + 1) c (by omega)]
   omega
  ·have hx:(i == a) = false:=by rw [beq_eq_false_iff_ne]; exact e
   rw [hx]
   cases odB ws w i with
   | true => simp only [cond_true]; exact plc_in ws w a ho n (i + 1) c pl (by omega) (by omega)
   | false =>
    simp only [cond_false,List.length_cons]
    have:=plc_in ws w a ho n (i + 1) (c + 1) pl (by omega) (by omega)
    omega
theorem owl_mem (ws:List PV) (w:PV):∀ (n:Nat) (i:Int),0 <= i -> i + n <= (ws.length:Int) -> ∀ x ∈ owl ws w i n,∃ e ∈ ws,x = nrE e
 | 0,_,_,_,x,hx => by cases hx
 | n + 1,i,h0,h1,x,hx => by
  unfold owl at hx
  have ih:=owl_mem ws w n (i + 1) (by omega) (by omega)
  cases ho:odB ws w i with
  | true => rw [ho] at hx; exact ih x hx
  | false =>
   rw [ho,cond_false] at hx
   rcases List.mem_cons.1 hx with rfl | hx
   ·obtain ⟨j,hj,_,e2⟩:=ws_at (ws:=ws) (k:=i) h0 (by omega)
    exact ⟨ws[j],List.getElem_mem hj,by rw [<- e2]⟩
   ·exact ih x hx
theorem owl_okW {ws:List PV} (h:okW ws = true) (w:PV):okW (owl ws w 0 ws.length) = true:=by
 obtain ⟨h1,h2⟩:=okW_iff h
 unfold okW
 simp only [Bool.and_eq_true,decide_eq_true_eq,List.all_eq_true]
 refine ⟨Nat.le_trans (owl_len ..) h1,fun x hx => ?_⟩
 obtain ⟨e,he,rfl⟩:=owl_mem ws w ws.length 0 (Int.le_refl _) (by omega) x hx
 exact h2 e he
theorem fiW_range (ws:List PV) (id:Int):∀ (n:Nat) (k:Int),0 <= k -> fiW ws id k n < 0 \/ (k <= fiW ws id k n /\ fiW ws id k n < k + n /\ wN ws (fiW ws id k n) = id)
 | 0,_,_ => .inl (by unfold fiW; omega)
 | n + 1,k,h => by
  unfold fiW
  cases he:wN ws k == id with
  | true => right; simp only [cond_true]; exact ⟨Int.le_refl _,by omega,by simpa using he⟩
  | false =>
   simp only [cond_false]
   rcases fiW_range ws id n (k + 1) (by omega) with h1 | ⟨h1,h2,h3⟩
   ·exact .inl h1
   ·exact .inr ⟨by omega,by omega,h3⟩
theorem canT_eq (fa:Bool) (ea:List PV) (fb:Bool) (eb:List PV) (f:Bool) (ws:List PV) (fd:Bool) (ed:List PV) (a:Int) (h:okC ws = true) (h0:0 <= a) (h1:a < (ws.length:Int)):
  canT fa ea fb eb f ws fd ed a (ws.getD a.toNat .any) = some (iv (canE ws a (ws.getD a.toNat .any))):=by
 unfold okC at h
 rw [Bool.and_eq_true] at h
 obtain ⟨hw,hb⟩:=h
 have h6:=(okW_iff hw).1
 have hbl:=okB_at hb h0 h1
 generalize he:ws.getD a.toNat .any = e at *
 have ho:odB ws (nrE e) a = false:=by
  unfold odB
  rw [he]
  show (wDs e != wDs e) = false
  exact bne_self_eq_false _
 have hp:=plc_in ws (nrE e) a ho ws.length 0 0 0 h0 (by omega)
 unfold canT canE ownL
 rw [show ((ws.length:Int) - 0).toNat = ws.length by omega,List.nil_append,Nat.zero_add,List.drop_zero,List.take_length,beq_self_eq_true,
  show pL1 (lL1 a (decide (wDs e < 1)) 0 0 0 f ws (ws.length:Int) 0 fa ea fb eb f ws fd ed e true []) = true by
   simp only [pL1,Bool.and_eq_true,decide_eq_true_eq]; exact ⟨⟨⟨⟨⟨⟨Int.le_refl _,trivial⟩,by omega⟩,rfl⟩,trivial⟩,Int.le_refl _⟩,hb,of_decide_eq_true hbl⟩,
  show pL2 (lL2 true 0 0 0 f ws (ws.length:Int) 0 fa ea fb eb f ws fd ed 0 false [] 0 .empty .empty false 0 0 true [] []) = true by
   simp only [pL2,Bool.and_eq_true,decide_eq_true_eq]; exact ⟨⟨Int.le_refl _,trivial⟩,by omega⟩,
  show okBr (owl ws (nrE e) 0 ws.length) (plc ws (nrE e) a 0 ws.length 0 0) = true by
   unfold okBr; rw [owl_okW hw,decide_eq_true hp.1,decide_eq_true (show plc ws (nrE e) a 0 ws.length 0 0 < ((owl ws (nrE e) 0 ws.length).length:Int) by omega)]; rfl]
 simp only [cond_true]
 cases bdr ws (nrE e) 0 ws.length (decide (wDs e < 1)) <;> cases brB (owl ws (nrE e) 0 ws.length) (plc ws (nrE e) a 0 ws.length 0 0) <;> cases ((wNm e).toList == (ByteArray.mk #[]).toList) <;> cases decide (ttC ws e < 2) <;> rfl
theorem qCan' (fa:Bool) (ea:List PV) (fb:Bool) (eb:List PV) (f:Bool) (ws:List PV) (fd:Bool) (ed:List PV) (id:Int) (h:okC ws = true):runP Try.prog TG0 100 9 [.agg [.lst fa 66 ea,.lst fb 71 eb,.lst f 36 ws,.lst fd 77 ed],iv id] = some (iv (canW ws id)):=by
 have hw:=h
 unfold okC at hw
 rw [Bool.and_eq_true] at hw
 have h6:=(okW_iff hw.1).1
 rw [qCan,show bigL ws = true from decide_eq_true (by omega)]
 unfold canW
 by_cases hn:fiW ws id 0 ws.length < 0
 ·rw [decide_eq_true hn]; rfl
 ·rcases fiW_range ws id ws.length 0 (Int.le_refl _) with h1 | ⟨h1,h2,_⟩
  ·exact absurd h1 hn
  ·rw [decide_eq_false hn,inr_of h1 (by omega),canT_eq fa ea fb eb f ws fd ed _ h h1 (by omega)]; rfl
def cCan:List PV -> Option (DT PV)
 | [.agg [a,b,w,d],.val (.int .i64 id)] => match lsM a b w d with | some ws => some (.br (okC ws) (.leaf (iv (canW ws id))) .no) | none => none
 | _ => none
theorem eCan:Hx.Enters Try.prog 9:=(runP_sound okTG0 (n:=100) (qCan' true [] true [] true [] true [] 0 rfl)).1
theorem oCan (args:List PV) (d:DT PV) (r:PV) (h:cCan args = some d) (hr:d.run = some r):PCall Try.prog 9 args r:=by
 unfold cCan at h; split at h
 ·split at h
  ·rename_i ws hl
   cases h
   obtain ⟨h1,rfl⟩:=run_br hr
   exact lsM_weak hl fun fa ea fb eb f fd ed => (runP_sound okTG0 (n:=100) (qCan' fa ea fb eb f ws fd ed _ h1)).2
  ·cases h
 ·cases h
end Go.Hn
/- Thin: Cost as a contract; All: a round. -/
namespace Go.Hn
open Go.Hx Go.Hg Go.Proofs
noncomputable def TJ0:EnvK:=(TB1.addF 9 cCan)
theorem okTJ0:EnvOK Try.prog TJ0.env:=(okTB1.addF eCan oCan)
def costW (ws:List PV) (id:Int):Int:=bif decide (fiW ws id 0 ws.length < 0) then 0 else W (4 * ((ws.getD (fiW ws id 0 ws.length).toNat .any).cellAt 6).getI)
theorem qCost (fa:Bool) (ea:List PV) (fb:Bool) (eb:List PV) (f:Bool) (ws:List PV) (fd:Bool) (ed:List PV) (id:Int):runP Try.prog TJ0 100 10 [.agg [.lst fa 66 ea,.lst fb 71 eb,.lst f 36 ws,.lst fd 77 ed],iv id] =
 bif bigL ws then bif decide (fiW ws id 0 ws.length < 0) then some (iv 0) else bif inr ws (fiW ws id 0 ws.length) then some (iv (W (4 * ((ws.getD (fiW ws id 0 ws.length).toNat .any).cellAt 6).getI))) else none else none:=by kernel_rfl
theorem qCost' (fa:Bool) (ea:List PV) (fb:Bool) (eb:List PV) (f:Bool) (ws:List PV) (fd:Bool) (ed:List PV) (id:Int) (h:bigL ws = true):runP Try.prog TJ0 100 10 [.agg [.lst fa 66 ea,.lst fb 71 eb,.lst f 36 ws,.lst fd 77 ed],iv id] = some (iv (costW ws id)):=by
 rw [qCost,h]
 unfold costW
 by_cases hn:fiW ws id 0 ws.length < 0
 ·rw [decide_eq_true hn]; rfl
 ·rcases fiW_range ws id ws.length 0 (Int.le_refl _) with h1 | ⟨h1,h2,_⟩
  ·exact absurd h1 hn
  ·rw [decide_eq_false hn,inr_of h1 (by omega)]; rfl
def cCost:List PV -> Option (DT PV)
 | [.agg [a,b,w,d],.val (.int .i64 id)] => match lsM a b w d with | some ws => some (.br (bigL ws) (.leaf (iv (costW ws id))) .no) | none => none
 | _ => none
theorem eCost:Hx.Enters Try.prog 10:=(runP_sound okTJ0 (n:=100) (qCost' true [] true [] true [] true [] 0 rfl)).1
theorem oCost (args:List PV) (d:DT PV) (r:PV) (h:cCost args = some d) (hr:d.run = some r):PCall Try.prog 10 args r:=by
 unfold cCost at h; split at h
 ·split at h
  ·rename_i ws hl
   cases h
   obtain ⟨h1,rfl⟩:=run_br hr
   exact lsM_weak hl fun fa ea fb eb f fd ed => (runP_sound okTJ0 (n:=100) (qCost' fa ea fb eb f ws fd ed _ h1)).2
  ·cases h
 ·cases h
end Go.Hn
/- Thin: All: its loop. -/
namespace Go.Hn
open Go.Hx Go.Hg Go.Proofs
end Go.Hn
/- Thin: All as a contract. -/
namespace Go.Hn
open Go.Hx Go.Hg Go.Proofs
theorem okC_len {ws:List PV} (h:okC ws = true):ws.length <= 6:=by
 unfold okC at h
 rw [Bool.and_eq_true] at h
 exact (okW_iff h.1).1
end Go.Hn
/- Thin: Apply: the ways are copied; Apply as a contract. -/
namespace Go.Hn
open Go.Hx Go.Hg Go.Proofs
def clR (e:PV):List PV:=(([] ++ wL e).drop 0).take (0 + (wL e).length)
def nrC (e:PV):PV:=.agg [iv (wI e),.lst false 46 (clR e),iv (wLv e),.val (.string ((e.cellAt 3).getS)),.val (.string ((e.cellAt 4).getS)),bv ((e.cellAt 5).getB),iv ((e.cellAt 6).getI),iv ((e.cellAt 7).getI)]
def clK {α:Type} (e:PV) (k:Option α):Option α:=bif decide (0 < (wL e).length) then bif decide ((0 + (wL e).length) * 16 <= 140737488355328) then bif ([] ++ wL e).length == 0 + (wL e).length then k else none else none else none
theorem qy0 (f:Bool):runP Try.prog {} 60 25 [.lst f 36 [],.fn (.func 27) [] []] = some (.val (.slice none 0 0)):=by kernel_rfl
theorem qy1 (f:Bool) (a:PV):runP Try.prog {} 60 25 [.lst f 36 [a],.fn (.func 27) [] []] = clK a (some (.lst false 36 [nrC a])):=by kernel_rfl
theorem qy2 (f:Bool) (a b:PV):runP Try.prog {} 60 25 [.lst f 36 [a,b],.fn (.func 27) [] []] = clK a (clK b (some (.lst false 36 [nrC a,nrC b]))):=by kernel_rfl
theorem qy3 (f:Bool) (a b c:PV):runP Try.prog {} 60 25 [.lst f 36 [a,b,c],.fn (.func 27) [] []] = clK a (clK b (clK c (some (.lst false 36 [nrC a,nrC b,nrC c])))):=by kernel_rfl
theorem qy4 (f:Bool) (a b c d:PV):runP Try.prog {} 60 25 [.lst f 36 [a,b,c,d],.fn (.func 27) [] []] = clK a (clK b (clK c (clK d (some (.lst false 36 [nrC a,nrC b,nrC c,nrC d]))))):=by kernel_rfl
theorem qy5 (f:Bool) (a b c d e:PV):runP Try.prog {} 60 25 [.lst f 36 [a,b,c,d,e],.fn (.func 27) [] []] = clK a (clK b (clK c (clK d (clK e (some (.lst false 36 [nrC a,nrC b,nrC c,nrC d,nrC e])))))):=by kernel_rfl
theorem qy6 (f:Bool) (a b c d e g:PV):runP Try.prog {} 60 25 [.lst f 36 [a,b,c,d,e,g],.fn (.func 27) [] []] = clK a (clK b (clK c (clK d (clK e (clK g (some (.lst false 36 [nrC a,nrC b,nrC c,nrC d,nrC e,nrC g]))))))):=by kernel_rfl
theorem clR_eq (e:PV):clR e = wL e:=by unfold clR; rw [List.nil_append,List.drop_zero,Nat.zero_add,List.take_length]
theorem nrC_eq (e:PV):nrC e = nrE e:=by unfold nrC; rw [clR_eq]; rfl
def okE1 (e:PV):Bool:=decide (0 < (wL e).length) && decide ((wL e).length <= 1000)
theorem clK_eq {α:Type} {e:PV} (h:okE1 e = true) (k:Option α):clK e k = k:=by
 unfold okE1 at h
 rw [Bool.and_eq_true,decide_eq_true_eq,decide_eq_true_eq] at h
 unfold clK
 rw [decide_eq_true h.1,decide_eq_true (show (0 + (wL e).length) * 16 <= 140737488355328 by omega),List.nil_append,Nat.zero_add,beq_self_eq_true]; rfl
theorem eEb:Hx.Enters Try.prog 25:=(runP_sound envOK_zero (qy0 true)).1
theorem qEb (f:Bool) (es:List PV) (h:es.length <= 6) (ho:es.all okE1 = true):PCall Try.prog 25 [.lst f 36 es,.fn (.func 27) [] []] (.lst false 36 (es.map nrE)):=by
 rw [List.all_eq_true] at ho
 match es,h,ho with
 | [],_,_ => exact pcall_nil (runP_sound envOK_zero (qy0 f)).2
 | [a],_,ho => exact (runP_sound envOK_zero (n:=60) (by rw [qy1,clK_eq (ho a (by simp)),nrC_eq]; rfl)).2
 | [a,b],_,ho => exact (runP_sound envOK_zero (n:=60) (by rw [qy2,clK_eq (ho a (by simp)),clK_eq (ho b (by simp)),nrC_eq,nrC_eq]; rfl)).2
 | [a,b,c],_,ho => exact (runP_sound envOK_zero (n:=60) (by rw [qy3,clK_eq (ho a (by simp)),clK_eq (ho b (by simp)),clK_eq (ho c (by simp)),nrC_eq,nrC_eq,nrC_eq]; rfl)).2
 | [a,b,c,d],_,ho => exact (runP_sound envOK_zero (n:=60) (by rw [qy4,clK_eq (ho a (by simp)),clK_eq (ho b (by simp)),clK_eq (ho c (by simp)),clK_eq (ho d (by simp)),nrC_eq,nrC_eq,nrC_eq,nrC_eq]; rfl)).2
 | [a,b,c,d,e],_,ho => exact (runP_sound envOK_zero (n:=60) (by rw [qy5,clK_eq (ho a (by simp)),clK_eq (ho b (by simp)),clK_eq (ho c (by simp)),clK_eq (ho d (by simp)),clK_eq (ho e (by simp)),nrC_eq,nrC_eq,nrC_eq,nrC_eq,nrC_eq]; rfl)).2
 | [a,b,c,d,e,g],_,ho => exact (runP_sound envOK_zero (n:=60) (by rw [qy6,clK_eq (ho a (by simp)),clK_eq (ho b (by simp)),clK_eq (ho c (by simp)),clK_eq (ho d (by simp)),clK_eq (ho e (by simp)),clK_eq (ho g (by simp)),nrC_eq,nrC_eq,nrC_eq,nrC_eq,nrC_eq,nrC_eq]; rfl)).2
 | _ :: _ :: _ :: _ :: _ :: _ :: _ :: _,h,_ => simp only [List.length_cons] at h; omega
def cEb:List PV -> Option (DT PV)
 | [.lst _ 36 es,.fn (.func 27) [] []] => some (.br (decide (es.length <= 6) && es.all okE1) (.leaf (.lst false 36 (es.map nrE))) .no)
 | _ => none
theorem oEb (args:List PV) (d:DT PV) (r:PV) (h:cEb args = some d) (hr:d.run = some r):PCall Try.prog 25 args r:=by
 unfold cEb at h; split at h
 ·rename_i f es
  cases h
  obtain ⟨h1,rfl⟩:=run_br hr
  rw [Bool.and_eq_true,decide_eq_true_eq] at h1
  exact qEb f es h1.1 h1.2
 ·cases h
theorem qE0:runP Try.prog {} 60 21 [nilV,.fn (.func 22) [] []] = some nilV:=by kernel_rfl
theorem qF0:runP Try.prog {} 60 24 [nilV] = some nilV:=by kernel_rfl
theorem qP0:runP Try.prog {} 60 28 [nilV] = some nilV:=by kernel_rfl
def cE0:List PV -> Option PV
 | [.val (.slice none 0 0),.fn (.func 22) [] []] => some nilV
 | _ => none
def cF0:List PV -> Option PV
 | [.val (.slice none 0 0)] => some nilV
 | _ => none
theorem oE0 (args:List PV) (r:PV) (h:cE0 args = some r):Hx.Enters Try.prog 21 /\ PCall Try.prog 21 args r:=by
 unfold cE0 at h; split at h
 ·cases h; exact runP_sound envOK_zero qE0
 ·cases h
theorem oF0 (args:List PV) (r:PV) (h:cF0 args = some r):Hx.Enters Try.prog 24 /\ PCall Try.prog 24 args r:=by
 unfold cF0 at h; split at h
 ·cases h; exact runP_sound envOK_zero qF0
 ·cases h
theorem oP0 (args:List PV) (r:PV) (h:cF0 args = some r):Hx.Enters Try.prog 28 /\ PCall Try.prog 28 args r:=by
 unfold cF0 at h; split at h
 ·cases h; exact runP_sound envOK_zero qP0
 ·cases h
noncomputable def TPH:EnvK:=(((((TB1.addF 9 cCan).addF 26 cWo).addF 25 cEb).addO 21 cE0).addO 24 cF0).addO 28 cF0
theorem okTPH:EnvOK Try.prog TPH.env:=(((((okTB1.addF eCan oCan).addF eWo oWo).addF eEb oEb).addO oE0).addO oF0).addO oP0
abbrev mpN (f:Bool) (ws:List PV):PV:=.agg [nilV,nilV,.lst f 36 ws,nilV]
def apL (ws:List PV) (id:Int):List PV:=(ws.eraseIdx (fiW ws id 0 ws.length).toNat).map nrE
theorem qAp (f:Bool) (ws:List PV) (id:Int):runP Try.prog TPH 100 11 [mpN f ws,iv id] =
 bif okC ws then bif canW ws id != 0 then some (.tup [.agg [nilV,nilV,nilV,nilV],iv (canW ws id)]) else
  bif bigL ws then bif decide (ws.length <= 6) && decide (0 <= fiW ws id 0 ws.length) && decide (fiW ws id 0 ws.length < (ws.length:Int)) then
  bif decide ((ws.eraseIdx (fiW ws id 0 ws.length).toNat).length <= 6) && (ws.eraseIdx (fiW ws id 0 ws.length).toNat).all okE1 then
   some (.tup [mpN false (apL ws id),iv 0]) else none else none else none else none:=by kernel_rfl
end Go.Hn
/- Network: the reference's Check: what it comes to. -/
namespace Go.Hn
open Go.Hx Go.Hg Go.Proofs
def shA3:Hx.S1:=⟨84,[(0,.lst 36),(3,I64)],[]⟩
abbrev lA3 (f:Bool) (ws:List PV) (i:Int):LS:=([.l f ws,.i i],[])
def rt84 (c:Int):Option (PX × List PV × List Row):=some (.ret,tm 84 [(2,iv c)],[])
abbrev wWt (e:PV):Int:=(e.cellAt 6).getI
abbrev lA0 (f:Bool) (ws:List PV) (i:Int) (e:PV):LS:=lA1 f ws i 0 (wI e) false (wL e) (wLv e) ((e.cellAt 3).getS) ((e.cellAt 4).getS) ((e.cellAt 5).getB) (wWt e) ((e.cellAt 7).getI)
theorem qA3 (f:Bool) (ws:List PV) (i:Int):runB Try.prog X2 60 35 (lpb Try.f35 4) [0,3] [2] (shA3.put (lA3 f ws i)).1 (shA3.put (lA3 f ws i)).2 =
 bif decide (i < (ws.length:Int)) then bif inr ws i then bif decide (wN ws i < 1) then rt84 1 else
  bif pA1 (lA0 f ws i (ws.getD i.toNat .any)) then bif anyI ws (wN ws i) 0 (i - 0).toNat then rt84 6 else
  bif chk (wL (ws.getD i.toNat .any)) != 0 then rt84 (chk (wL (ws.getD i.toNat .any))) else
  bif decide (wLv (ws.getD i.toNat .any) < -2) then rt84 3 else bif decide (wLv (ws.getD i.toNat .any) > 2) then rt84 3 else bif decide (wWt (ws.getD i.toNat .any) < 1) then rt84 3 else bif decide (wWt (ws.getD i.toNat .any) > 255) then rt84 3 else
  bif pA2 (lA0 f ws i (ws.getD i.toNat .any)) then bif anyC ws (wLv (ws.getD i.toNat .any)) (wL (ws.getD i.toNat .any)) 0 (i - 0).toNat then rt84 16 else some (.normal,shA3.put (lA3 f ws (W (i + 1)))) else none else none else none
 else some (.exit 0,tm 84 [],[]):=by kernel_rfl
def rngB (e:PV):Bool:=decide (wLv e < -2) || (decide (wLv e > 2) || (decide (wWt e < 1) || decide (wWt e > 255)))
def errW (ws:List PV) (i:Int):Int:=
 bif decide (wN ws i < 1) then 1 else bif anyI ws (wN ws i) 0 i.toNat then 6 else bif chk (wL (ws.getD i.toNat .any)) != 0 then chk (wL (ws.getD i.toNat .any)) else bif rngB (ws.getD i.toNat .any) then 3 else
 bif anyC ws (wLv (ws.getD i.toNat .any)) (wL (ws.getD i.toNat .any)) 0 i.toNat then 16 else 0
def errF (ws:List PV):Int -> Nat -> Int
 | _,0 => 0
 | i,n + 1 => bif errW ws i != 0 then errW ws i else errF ws (i + 1) n
def pA3:LS -> Bool
 | ([.l _ ws,.i i],[]) => decide (0 <= i) && okB ws
 | _ => false
def fA3:LS -> DT (PX × List PV × List Row)
 | ([.l _ ws,.i i],[]) => .br (errF ws i ((ws.length:Int) - i).toNat == 0) (.leaf (.exit 0,tm 84 [],[])) (.leaf (.ret,tm 84 [(2,iv (errF ws i ((ws.length:Int) - i).toNat))],[]))
 | _ => .no
def mA3:LS -> Nat
 | ([.l _ ws,.i i],[]) => ((ws.length:Int) - i).toNat
 | _ => 0
theorem rnd3 {ws:List PV} (f:Bool) {i:Int} (h1:0 <= i) (hi:i < (ws.length:Int)) (h7:okB ws = true) {α:Type} (rt:Int -> α) (nx:α) (e:PV) (he:e = ws.getD i.toNat .any):
 (bif decide (wI e < 1) then rt 1 else
  bif pA1 (lA0 f ws i e) then bif anyI ws (wI e) 0 (i - 0).toNat then rt 6 else
  bif chk (wL e) != 0 then rt (chk (wL e)) else
  bif decide (wLv e < -2) then rt 3 else bif decide (wLv e > 2) then rt 3 else bif decide (wWt e < 1) then rt 3 else bif decide (wWt e > 255) then rt 3 else
  bif pA2 (lA0 f ws i e) then bif anyC ws (wLv e) (wL e) 0 (i - 0).toNat then rt 16 else nx else rt 77 else rt 77) = bif errW ws i != 0 then rt (errW ws i) else nx:=by
 have hb:=okB_len h7
 have hbg:big (wL e) = true:=by
  have:=okB_at h7 h1 hi
  rw [<- he] at this
  exact this
 rw [show pA1 (lA0 f ws i e) = true by simp only [pA1,Bool.and_eq_true,decide_eq_true_eq]; exact ⟨⟨Int.le_refl _,hi⟩,by omega⟩,
  show pA2 (lA0 f ws i e) = true by simp only [pA2,Bool.and_eq_true,decide_eq_true_eq]; exact ⟨⟨⟨Int.le_refl _,hi⟩,h7⟩,by simpa using hbg⟩,show (i - 0).toNat = i.toNat by omega]
 unfold errW rngB wN
 rw [<- he]
 cases decide (wI e < 1) <;> cases anyI ws (wI e) 0 i.toNat <;> cases hc:(chk (wL e) != 0) <;> cases decide (wLv e < -2) <;> cases decide (wLv e > 2) <;> cases decide (wWt e < 1) <;> cases decide (wWt e > 255) <;> cases anyC ws (wLv e) (wL e) 0 i.toNat <;> simp [hc]
theorem sA3:∀ s r,pA3 s = true -> (fA3 s).run = some r -> r.1 ≠ .normal /\ (runB Try.prog X2 60 35 (lpb Try.f35 4) [0,3] [2] (shA3.put s).1 (shA3.put s).2 = some r \/
   ∃ s',runB Try.prog X2 60 35 (lpb Try.f35 4) [0,3] [2] (shA3.put s).1 (shA3.put s).2 = some (.normal,shA3.put s') /\ pA3 s' = true /\ mA3 s' < mA3 s /\ (fA3 s').run = some r):=by
 intro t r hp hr
 unfold pA3 at hp; split at hp
 ·rename_i f ws i
  simp only [Bool.and_eq_true,decide_eq_true_eq] at hp
  obtain ⟨h1,h7⟩:=hp
  have hr':=run_br2 hr
  have hb:=okB_len h7
  refine ⟨by rw [hr']; cases (errF ws i ((ws.length:Int) - i).toNat == 0) <;> simp,?_⟩
  rw [show shA3.put ([.l f ws,.i i],[]) = shA3.put (lA3 f ws i) from rfl,qA3]
  by_cases hi:i < (ws.length:Int)
  ·rw [decide_eq_true hi,cond_true,inr_of h1 hi,cond_true,W_id (n:=i + 1) (by omega) (by omega)]
   obtain ⟨m,hm⟩:∃ m,((ws.length:Int) - i).toNat = m + 1:=⟨((ws.length:Int) - i).toNat - 1,by omega⟩
   have hm2:((ws.length:Int) - (i + 1)).toNat = m:=by omega
   rw [hm] at hr'
   simp only [errF] at hr'
   have key:=rnd3 f h1 hi h7 rt84 (some (PX.normal,shA3.put (lA3 f ws (i + 1)))) (ws.getD i.toNat .any) rfl
   have hp1:pA1 (lA0 f ws i (ws.getD i.toNat .any)) = true:=by simp only [pA1,Bool.and_eq_true,decide_eq_true_eq]; exact ⟨⟨Int.le_refl _,hi⟩,by omega⟩
   have hp2:pA2 (lA0 f ws i (ws.getD i.toNat .any)) = true:=by
    simp only [pA2,Bool.and_eq_true,decide_eq_true_eq]
    have:=okB_at h7 h1 hi
    exact ⟨⟨⟨Int.le_refl _,hi⟩,h7⟩,by simpa using this⟩
   rw [hp1,hp2] at key ⊢
   simp only [cond_true] at key ⊢
   unfold wN at *
   rw [key]
   cases hc:errW ws i != 0 with
   | true =>
    rw [hc] at hr'
    simp only [cond_true] at hr'
    rw [show (errW ws i == 0) = false by rw [bne] at hc; simpa using hc] at hr'
    exact .inl (by rw [hr']; rfl)
   | false =>
    rw [hc] at hr'
    refine .inr ⟨lA3 f ws (i + 1),rfl,by simp only [pA3,Bool.and_eq_true,decide_eq_true_eq]; exact ⟨by omega,h7⟩,by simp only [mA3]; omega,?_⟩
    rw [hr']
    simp only [fA3,hm2,cond_false]
    cases (errF ws (i + 1) m == 0) <;> rfl
  ·rw [decide_eq_false hi]
   rw [show ((ws.length:Int) - i).toNat = 0 by omega] at hr'
   exact .inl (by rw [hr']; rfl)
 ·cases hp
noncomputable def X3:EnvK:=X2.addW 35 4 [0,3] [] shA3 pA3 fA3
theorem okX3:EnvOK Try.prog X3.env:=
 okX2.addW (n:=60) Try.func35 (show Try.f35.body = some (bod Try.f35) by kernel_rfl) (show (loops (bod Try.f35)).filter (fun b => rid b == 4) = [lpb Try.f35 4] by kernel_rfl) [0,3] [2] [] shA3 mA3 sA3
def chkF (ws:List PV):Int:=bif decide ((ws.length:Int) > 80) then 2 else errF ws 0 ws.length
theorem qRChk (f:Bool) (ws:List PV):runP Try.prog X3 60 35 [.lst f 36 ws] =
 bif decide ((ws.length:Int) > 80) then some (iv 2) else bif pA3 (lA3 f ws 0) then bif errF ws 0 ((ws.length:Int) - 0).toNat == 0 then some (iv 0) else some (iv (errF ws 0 ((ws.length:Int) - 0).toNat)) else none:=by kernel_rfl
theorem qRChk' (f:Bool) (ws:List PV) (h:okB ws = true):runP Try.prog X3 60 35 [.lst f 36 ws] = some (iv (chkF ws)):=by
 rw [qRChk,show pA3 (lA3 f ws 0) = true by simp only [pA3,h]; rfl,show ((ws.length:Int) - 0).toNat = ws.length by omega]
 unfold chkF
 cases decide ((ws.length:Int) > 80)
 ·simp only [cond_false,cond_true]
  cases hc:errF ws 0 ws.length == 0
  ·rfl
  ·rw [beq_iff_eq] at hc; rw [hc]; rfl
 ·rfl
def cChW:List PV -> Option (DT PV)
 | [.lst _ 36 ws] => some (.br (okB ws) (.leaf (iv (chkF ws))) .no)
 | _ => none
theorem eRChW:Hx.Enters Try.prog 35:=(runP_sound okX3 (n:=60) (qRChk' true [] rfl)).1
theorem oRChW (args:List PV) (d:DT PV) (r:PV) (h:cChW args = some d) (hr:d.run = some r):PCall Try.prog 35 args r:=by
 unfold cChW at h; split at h
 ·cases h
  obtain ⟨h1,rfl⟩:=run_br hr
  exact (runP_sound okX3 (n:=60) (qRChk' _ _ h1)).2
 ·cases h
end Go.Hn
/- Network: fine ways: made ones without those that would make a network wrong. -/
namespace Go.Hn
open Go.Hx Go.Hg Go.Proofs
noncomputable def Y0:EnvK:=((((((X0.addF 13 cSt2).addF 14 cJnd).addO 34 cMade).addF 35 cChW))).addN 17 4 [(4,36,0)]
theorem okY0:EnvOK Try.prog Y0.env:=((((((okX0.addF eSt2 oSt2).addF eJnd oJnd).addO oMade).addF eRChW oRChW))).addN 17 4 [(4,36,0)]
def wvE (e:PV):PV:=.agg [iv (wI e),.lst false 46 (wL e),iv (wLv e),.val (.string ((e.cellAt 3).getS)),.val (.string ((e.cellAt 4).getS)),bv ((e.cellAt 5).getB),iv (wWt e),iv ((e.cellAt 7).getI)]
def shQ:Hx.S1:=⟨29,[(3,.lst 36),(4,.lst 36),(5,I64)],[]⟩
abbrev lQ (f:Bool) (vs:List PV) (g:Bool) (es:List PV) (i:Int):LS:=([.l f vs,.l g es,.i i],[])
def nxQ (vs es:List PV) (i:Int):List PV:=((es ++ [wvE (vs.getD i.toNat .any)]).drop 0).take (0 + es.length + 1)
def rmQ (vs es:List PV) (i:Int) {α:Type} (k:Option α):Option α:=bif (es ++ [wvE (vs.getD i.toNat .any)]).length == 0 + es.length + 1 then k else none
theorem qQ (f:Bool) (vs:List PV) (g:Bool) (es:List PV) (i:Int):runB Try.prog Y0 60 17 (lpb Try.f17 4) [3,4,5] [4] (shQ.put (lQ f vs g es i)).1 (shQ.put (lQ f vs g es i)).2 =
 bif decide (i < (vs.length:Int)) then bif decide ((0 + es.length) * 96 <= 140737488355328) then bif inr vs i then
  bif decide (es.length = 0 + es.length) && decide (0 + es.length = 0 + es.length) && decide ((0 + es.length + 1) * 96 <= 140737488355328) then rmQ vs es i (bif okB (nxQ vs es i) then
   bif chkF (nxQ vs es i) == 0 then rmQ vs es i (some (.normal,shQ.put (lQ f vs false (nxQ vs es i) (W (i + 1))))) else some (.normal,shQ.put (lQ f vs g es (W (i + 1)))) else none) else none else none else none
 else some (.exit 0,tm 29 [(4,.lst g 36 es)],[]):=by kernel_rfl
end Go.Hn
/- Network: fine ways as a contract; facts. -/
namespace Go.Hn
open Go.Hx Go.Hg Go.Proofs
def fqS (es:List PV) (e:PV):List PV:=bif chkF (es ++ [wvE e]) == 0 then es ++ [wvE e] else es
def fq (vs:List PV):Int -> Nat -> List PV -> List PV
 | _,0,es => es
 | i,n + 1,es => fq vs (i + 1) n (fqS es (vs.getD i.toNat .any))
theorem okB_add {es:List PV} {e:PV} (h:okB es = true) (hl:es.length <= 999999) (he:(wL e).length <= 1000000):okB (es ++ [wvE e]) = true:=by
 unfold okB at *
 rw [Bool.and_eq_true,List.all_eq_true,decide_eq_true_eq] at *
 refine ⟨by simp; omega,fun x hx => ?_⟩
 rcases List.mem_append.1 hx with hx | hx
 ·exact h.2 x hx
 ·rw [List.mem_singleton] at hx
  subst hx
  rw [decide_eq_true_eq]; exact he
def pQ:LS -> Bool
 | ([.l _ vs,.l g es,.i i],[]) => !g && decide (0 <= i) && decide ((es.length:Int) <= i) && decide (vs.length <= 1000) && okB vs && okB es && decide (es.length <= 1000)
 | _ => false
def fQ:LS -> DT (PX × List PV × List Row)
 | ([.l _ vs,.l _ es,.i i],[]) => .leaf (.exit 0,tm 29 [(4,.lst false 36 (fq vs i ((vs.length:Int) - i).toNat es))],[])
 | _ => .no
def mQ:LS -> Nat
 | ([.l _ vs,.l _ _,.i i],[]) => ((vs.length:Int) - i).toNat
 | _ => 0
theorem sQ:∀ s r,pQ s = true -> (fQ s).run = some r -> r.1 ≠ .normal /\ (runB Try.prog Y0 60 17 (lpb Try.f17 4) [3,4,5] [4] (shQ.put s).1 (shQ.put s).2 = some r \/
   ∃ s',runB Try.prog Y0 60 17 (lpb Try.f17 4) [3,4,5] [4] (shQ.put s).1 (shQ.put s).2 = some (.normal,shQ.put s') /\ pQ s' = true /\ mQ s' < mQ s /\ (fQ s').run = some r):=by
 intro t r hp hr
 unfold pQ at hp; split at hp
 ·rename_i f vs g es i
  simp only [Bool.and_eq_true,decide_eq_true_eq,Bool.not_eq_true'] at hp
  obtain ⟨⟨⟨⟨⟨⟨rfl,h1⟩,h2⟩,h3⟩,h4⟩,h5⟩,h6⟩:=hp
  have hr':=(Option.some.inj hr).symm
  refine ⟨by rw [hr']; simp,?_⟩
  rw [show shQ.put ([.l f vs,.l false es,.i i],[]) = shQ.put (lQ f vs false es i) from rfl,qQ]
  by_cases hi:i < (vs.length:Int)
  ·obtain ⟨m,hm⟩:∃ m,((vs.length:Int) - i).toNat = m + 1:=⟨((vs.length:Int) - i).toNat - 1,by omega⟩
   have hm2:((vs.length:Int) - (i + 1)).toNat = m:=by omega
   rw [hm] at hr'
   simp only [fq] at hr'
   have hN:nxQ vs es i = es ++ [wvE (vs.getD i.toNat .any)]:=by
    unfold nxQ
    rw [List.drop_zero,List.take_of_length_le (by rw [List.length_append,List.length_singleton]; omega)]
   have hR:∀ {α:Type} (k:Option α),rmQ vs es i k = k:=fun k => by
    unfold rmQ
    rw [show (es ++ [wvE (vs.getD i.toNat .any)]).length = 0 + es.length + 1 by simp,beq_self_eq_true]; rfl
   have hO:okB (es ++ [wvE (vs.getD i.toNat .any)]) = true:=okB_add h5 (by omega) (of_decide_eq_true (okB_at h4 h1 hi))
   rw [decide_eq_true hi,cond_true,W_id (n:=i + 1) (by omega) (by omega),decide_eq_true (show (0 + es.length) * 96 <= 140737488355328 by omega),inr_of h1 hi,decide_eq_true (show es.length = 0 + es.length by omega),decide_eq_true rfl,decide_eq_true (show (0 + es.length + 1) * 96 <= 140737488355328 by omega)]
   simp only [Bool.and_self,cond_true,hR]
   rw [hN,hO,cond_true]
   unfold fqS at hr'
   right
   cases hc:chkF (es ++ [wvE (vs.getD i.toNat .any)]) == 0 with
   | true =>
    rw [hc] at hr'
    refine ⟨lQ f vs false (es ++ [wvE (vs.getD i.toNat .any)]) (i + 1),rfl,by simp only [pQ,Bool.and_eq_true,decide_eq_true_eq,Bool.not_eq_true',List.length_append,List.length_cons,List.length_nil]; exact ⟨⟨⟨⟨⟨⟨trivial,by omega⟩,by omega⟩,h3⟩,h4⟩,hO⟩,by omega⟩,by simp only [mQ]; omega,?_⟩
    rw [hr']; simp only [fQ,hm2]; rfl
   | false =>
    rw [hc] at hr'
    refine ⟨lQ f vs false es (i + 1),rfl,by simp only [pQ,Bool.and_eq_true,decide_eq_true_eq,Bool.not_eq_true']; exact ⟨⟨⟨⟨⟨⟨trivial,by omega⟩,by omega⟩,h3⟩,h4⟩,h5⟩,h6⟩,by simp only [mQ]; omega,?_⟩
    rw [hr']; simp only [fQ,hm2]; rfl
  ·rw [decide_eq_false hi]
   rw [show ((vs.length:Int) - i).toNat = 0 by omega] at hr'
   exact .inl (by rw [hr']; rfl)
 ·cases hp
noncomputable def Y1:EnvK:=Y0.addW 17 4 [3,4,5] [] shQ pQ fQ
theorem okY1:EnvOK Try.prog Y1.env:=
 okY0.addW (n:=60) Try.func17 (show Try.f17.body = some (bod Try.f17) by kernel_rfl) (show (loops (bod Try.f17)).filter (fun b => rid b == 4) = [lpb Try.f17 4] by kernel_rfl) [3,4,5] [4] [] shQ mQ sQ
theorem qFine (f:Bool) (L:List PV):runP Try.prog Y1 60 17 [.lst f 3 L] =
 bif pQ (lQ false (madeW L) false [] 0) then some (.lst false 36 (fq (madeW L) 0 (((madeW L).length:Int) - 0).toNat [])) else none:=by kernel_rfl
def fineW (L:List PV):List PV:=fq (madeW L) 0 (madeW L).length []
theorem qFine' (f:Bool) (L:List PV):runP Try.prog Y1 60 17 [.lst f 3 L] = some (.lst false 36 (fineW L)):=by
 have hl:=madeW_len L
 rw [qFine,show pQ (lQ false (madeW L) false [] 0) = true by simp only [pQ,Bool.and_eq_true,decide_eq_true_eq]; exact ⟨⟨⟨⟨⟨⟨rfl,Int.le_refl _⟩,Int.le_refl _⟩,by omega⟩,made_okB L⟩,rfl⟩,by decide⟩,show (((madeW L).length:Int) - 0).toNat = (madeW L).length by omega]
 rfl
def cFine:List PV -> Option PV
 | [.lst _ 3 L] => some (.lst false 36 (fineW L))
 | _ => none
theorem oFine (args:List PV) (r:PV) (h:cFine args = some r):Hx.Enters Try.prog 17 /\ PCall Try.prog 17 args r:=by
 unfold cFine at h; split at h
 ·cases h; exact runP_sound okY1 (n:=60) (qFine' _ _)
 ·cases h
theorem wvE_mW (L:List PV) (k a:Int):wvE (mW L k a) = mW L k a:=rfl
theorem fq_facts {vs:List PV} (hv:∀ e ∈ vs,wvE e = e):∀ (n i:Nat) (es:List PV),i + n = vs.length -> chkF es = 0 -> ∃ ds:List PV,fq vs (i:Int) n es = es ++ ds /\ ds.Sublist (vs.drop i) /\ chkF (fq vs (i:Int) n es) = 0
 | 0,i,es,hn,h => ⟨[],by simp [fq],List.nil_sublist _,h⟩
 | n + 1,i,es,hn,h => by
  have hi:i < vs.length:=by omega
  have hg:vs.getD (i:Int).toNat .any = vs[i]:=by rw [Int.toNat_natCast,List.getD_eq_getElem?_getD,List.getElem?_eq_getElem hi]; rfl
  unfold fq
  rw [hg,List.drop_eq_getElem_cons hi,show (i:Int) + 1 = ((i + 1:Nat):Int) by omega]
  unfold fqS
  rw [hv _ (List.getElem_mem hi)]
  cases hc:chkF (es ++ [vs[i]]) == 0 with
  | true =>
   obtain ⟨ds,h1,h2,h3⟩:=fq_facts hv n (i + 1) (es ++ [vs[i]]) (by omega) (by simpa using hc)
   refine ⟨vs[i] :: ds,?_,h2.cons_cons _,h3⟩
   rw [cond_true,h1]; simp
  | false =>
   obtain ⟨ds,h1,h2,h3⟩:=fq_facts hv n (i + 1) es (by omega) h
   exact ⟨ds,h1,h2.cons _,h3⟩
theorem fine_facts (L:List PV):(fineW L).Sublist (madeW L) /\ chkF (fineW L) = 0:=by
 obtain ⟨ds,h1,h2,h3⟩:=fq_facts (vs:=madeW L) (fun e he => by obtain ⟨k,a,_,_,rfl⟩:=made_mem he; exact wvE_mW L k a) (madeW L).length 0 [] (by omega) rfl
 unfold fineW
 refine ⟨?_,h3⟩
 have h1:fq (madeW L) 0 (madeW L).length [] = [] ++ ds:=h1
 rw [h1]
 simpa using h2
theorem fine_okW (L:List PV):okW (fineW L) = true:=by
 obtain ⟨h1,h2⟩:=okW_iff (made_okW L)
 have hs:=(fine_facts L).1
 unfold okW
 simp only [Bool.and_eq_true,decide_eq_true_eq,List.all_eq_true]
 exact ⟨Nat.le_trans hs.length_le h1,fun e he => h2 e (hs.subset he)⟩
theorem fine_okB (L:List PV):okB (fineW L) = true:=by
 have h:=made_okB L
 have hs:=(fine_facts L).1
 unfold okB at *
 rw [Bool.and_eq_true,List.all_eq_true,decide_eq_true_eq] at *
 exact ⟨Nat.le_trans hs.length_le h.1,fun e he => h.2 e (hs.subset he)⟩
end Go.Hn
/- Thin: the reference's Fine, where its result is a row (as Made needs it): rounds. -/
namespace Go.Hn
open Go.Hx Go.Hg Go.Proofs
noncomputable def TM0:EnvK:=(((X0.addO 34 cMade).addF 35 cChW).addN 17 4 [(4,36,8)]).addK 17
theorem okTM0:EnvOK Try.prog TM0.env:=(((okX0.addO oMade).addF eRChW oRChW).addN 17 4 [(4,36,8)]).addK 17
abbrev mR:Row:={ es:=[.val (.agg #[.slice none 0 0,.slice none 0 0,.slice none 0 0,.slice none 0 0])],s:=4,t:=30,bv:=false }
abbrev nR:Row:={ es:=[],s:=8,t:=36,bv:=true,nl:=true }
abbrev wR (es:List PV):Row:={ es,s:=8,t:=36,bv:=true }
def keepF (S:List PV) (_:List Row):List Nat:=match S.getD 4 .any with | .sl 0 _ _ _ => [0,1] | .sl 1 _ _ _ => [0,1] | .sl i _ _ _ => [0,1,i] | _ => [0,1]
def SA (f:Bool) (vs:List PV) (i:Int):List PV:=tm 29 [(3,.lst f 36 vs),(4,.sl 1 0 0 0),(5,iv i)]
def SB (f:Bool) (vs:List PV) (n:Nat) (i:Int):List PV:=tm 29 [(3,.lst f 36 vs),(4,.sl 2 n 0 n),(5,iv i)]
noncomputable def rdF (S:List PV) (H:List Row):Option (PX × List PV × List Row):=runG Try.prog TM0 80 17 (lpb Try.f17 4) 2 [3,4,5] [4] keepF S H
def nxA (vs:List PV) (i:Int):List PV:=[wvE (vs.getD i.toNat .any)]
theorem qFA (f:Bool) (vs:List PV) (i:Int):rdF (SA f vs i) [mR,nR] =
 bif decide (i < (vs.length:Int)) then bif inr vs i then bif okB (nxA vs i) then bif chkF (nxA vs i) == 0 then some (.normal,SB f vs 1 (W (i + 1)),[mR,nR,wR (nxA vs i)]) else some (.normal,SA f vs (W (i + 1)),[mR,nR]) else none else none
 else some (.exit 0,tm 29 [(4,.sl 1 0 0 0)],[mR,nR]):=by kernel_rfl
def tkB (es:List PV) (n:Nat):List PV:=(es.drop 0).take n
def nxR (vs es:List PV) (n:Nat) (i:Int):List PV:=([] ++ tkB es n) ++ [wvE (vs.getD i.toNat .any)]
def nxB (vs es:List PV) (n:Nat) (i:Int):List PV:=((nxR vs es n i).drop 0).take (0 + (tkB es n).length + 1)
theorem qFB (f:Bool) (vs:List PV) (n:Nat) (es:List PV) (i:Int):rdF (SB f vs n i) [mR,nR,wR es] =
 bif decide (i < (vs.length:Int)) then bif es.length == n then bif decide ((0 + (tkB es n).length) * 96 <= 140737488355328) then bif inr vs i then
  bif decide (([] ++ tkB es n).length = 0 + (tkB es n).length) && decide (0 + (tkB es n).length = 0 + (tkB es n).length) && decide ((0 + (tkB es n).length + 1) * 96 <= 140737488355328) then bif (nxR vs es n i).length == 0 + (tkB es n).length + 1 then
  bif okB (nxB vs es n i) then bif chkF (nxB vs es n i) == 0 then some (.normal,SB f vs (0 + (tkB es n).length + 1) (W (i + 1)),[mR,nR,wR (nxR vs es n i)]) else some (.normal,SB f vs n (W (i + 1)),[mR,nR,wR es])
  else none else none else none else none else none else none
 else some (.exit 0,tm 29 [(4,.sl 2 n 0 n)],[mR,nR,wR es]):=by kernel_rfl
end Go.Hn
/- Thin: the reference's Fine, where its result is a row: its loop as a contract. -/
namespace Go.Hn
open Go.Hx Go.Hg Go.Proofs
def stS (f:Bool) (vs es:List PV) (i:Int):List PV:=bif es.isEmpty then SA f vs i else SB f vs es.length i
def stH (es:List PV):List Row:=bif es.isEmpty then [mR,nR] else [mR,nR,wR es]
def xiS (es:List PV):List PV:=bif es.isEmpty then tm 29 [(4,.sl 1 0 0 0)] else tm 29 [(4,.sl 2 es.length 0 es.length)]
theorem rdF_stop {f:Bool} {vs es:List PV} {i:Int} (h:¬ i < (vs.length:Int)):rdF (stS f vs es i) (stH es) = some (.exit 0,xiS es,stH es):=by
 cases es with
 | nil => show rdF (SA f vs i) [mR,nR] = _; rw [qFA,decide_eq_false h]; rfl
 | cons e es => show rdF (SB f vs (e :: es).length i) [mR,nR,wR (e :: es)] = _; rw [qFB,decide_eq_false h]; rfl
theorem rdF_go {f:Bool} {vs es:List PV} {i:Int} (h0:0 <= i) (h:i < (vs.length:Int)) (hv:okB vs = true) (he:okB es = true) (hl:es.length <= 1000) (hn:vs.length <= 1000):
  rdF (stS f vs es i) (stH es) = some (.normal,stS f vs (fqS es (vs.getD i.toNat .any)) (i + 1),stH (fqS es (vs.getD i.toNat .any))) /\ okB (fqS es (vs.getD i.toNat .any)) = true /\ (fqS es (vs.getD i.toNat .any)).length <= es.length + 1:=by
 have hb:=okB_at hv h0 h
 have ha:=okB_add (e:=vs.getD i.toNat .any) he (by omega) (of_decide_eq_true hb)
 refine ⟨?_,by unfold fqS; cases chkF (es ++ [wvE (vs.getD i.toNat .any)]) == 0 <;> assumption,by unfold fqS; cases chkF (es ++ [wvE (vs.getD i.toNat .any)]) == 0 <;> simp⟩
 unfold fqS
 cases es with
 | nil =>
  show rdF (SA f vs i) [mR,nR] = _
  have e1:nxA vs i = [] ++ [wvE (vs.getD i.toNat .any)]:=rfl
  rw [qFA,decide_eq_true h,inr_of h0 h,e1,ha,W_id (n:=i + 1) (by omega) (by omega)]
  cases chkF ([] ++ [wvE (vs.getD i.toNat .any)]) == 0 <;> rfl
 | cons e es =>
  show rdF (SB f vs (e :: es).length i) [mR,nR,wR (e :: es)] = _
  generalize hq:e :: es = qs at *
  have hne:qs.isEmpty = false:=by rw [<- hq]; rfl
  have t1:tkB qs qs.length = qs:=by unfold tkB; rw [List.drop_zero,List.take_length]
  have t2:nxR vs qs qs.length i = qs ++ [wvE (vs.getD i.toNat .any)]:=by unfold nxR; rw [t1,List.nil_append]
  have t3:nxB vs qs qs.length i = qs ++ [wvE (vs.getD i.toNat .any)]:=by
   unfold nxB
   rw [t2,t1,List.drop_zero,List.take_of_length_le (by simp)]
  have hl2:(qs ++ [wvE (vs.getD i.toNat .any)]).length = qs.length + 1:=by simp
  have c1:decide ((0 + qs.length) * 96 <= 140737488355328) = true:=by simp; omega
  have c3:(decide (([] ++ qs).length = 0 + qs.length) && decide (0 + qs.length = 0 + qs.length) && decide ((0 + qs.length + 1) * 96 <= 140737488355328)) = true:=by simp; omega
  rw [qFB,t2,t3,t1,decide_eq_true h,beq_self_eq_true,c1,inr_of h0 h,c3,hl2,Nat.zero_add,beq_self_eq_true,ha,W_id (n:=i + 1) (by omega) (by omega)]
  have hne2:(qs ++ [wvE (vs.getD i.toNat .any)]).isEmpty = false:=by rw [<- hq]; rfl
  simp only [cond_true]
  cases chkF (qs ++ [wvE (vs.getD i.toNat .any)]) == 0 with
  | true => simp only [cond_true]; unfold stS stH; rw [hne2,hl2]; rfl
  | false => simp only [cond_false]; unfold stS stH; rw [hne]; rfl
theorem allF {f:Bool} {vs:List PV} (hv:okB vs = true) (hn:vs.length <= 900) (hsub:SubCode Try.prog 17 (lpb Try.f17 4)):∀ (k:Nat) (i:Int) (es:List PV),0 <= i -> i + k = (vs.length:Int) -> okB es = true -> (es.length:Int) <= i ->
  RndsG Try.prog (lpb Try.f17 4) 2 (.exit 0) (xiS (fq vs i k es)) (stH (fq vs i k es)) (stS f vs es i) (stH es)
 | 0,i,es,h0,h1,_,_ => runG_stop okTM0 hsub (by simp) (rdF_stop (by omega))
 | k + 1,i,es,h0,h1,he,hl => by
  obtain ⟨g1,g2,g3⟩:=rdF_go (f:=f) h0 (by omega) hv he (by omega) (by omega)
  refine runG_go okTM0 hsub g1 ?_
  unfold fq
  exact allF hv hn hsub k (i + 1) _ (by omega) (by omega) g2 (by omega)
def rowM:Row -> Bool
 | ⟨[.val (.agg ⟨[.slice none 0 0,.slice none 0 0,.slice none 0 0,.slice none 0 0]⟩)],4,30,false,true,false,none,false⟩ => true
 | _ => false
theorem rowM_eq {r:Row} (h:rowM r = true):r = mR:=by
 unfold rowM at h; split at h
 ·rfl
 ·cases h
def rowN:Row -> Bool
 | ⟨[],8,36,true,true,true,none,false⟩ => true
 | _ => false
theorem rowN_eq {r:Row} (h:rowN r = true):r = nR:=by
 unfold rowN at h; split at h
 ·rfl
 ·cases h
def cFn:Nat -> List PV -> List Row -> Option (DT (PX × List PV × List Row))
 | 0,S,[r0,r1] =>
  match S.getD 3 .any,S.getD 4 .any,S.getD 5 .any,rowM r0,rowN r1,tmB 29 [3,4,5] S with
  | .lst _ 36 vs,.sl 1 0 0 0,.val (.int .i64 0),true,true,true =>
   some (.br (okB vs && decide (vs.length <= 900)) (.br (fq vs 0 vs.length []).isEmpty (.leaf (.exit 0,tm 29 [(4,.sl 1 0 0 0)],[mR,nR])) (.leaf (.exit 0,tm 29 [(4,.sl 2 (fq vs 0 vs.length []).length 0 (fq vs 0 vs.length []).length)],[mR,nR,wR (fq vs 0 vs.length [])]))) .no)
  | _,_,_,_,_,_ => none
 | _,_,_ => none
theorem oFn (hs:SubCode Try.prog 17 (.loop (lpb Try.f17 4))) (ro:Nat) (S:List PV) (H:List Row) (d:DT (PX × List PV × List Row)) (x:PX) (S':List PV) (H':List Row) (h:cFn ro S H = some d) (hr:d.run = some (x,S',H')):WpTo Try.prog (.loop (lpb Try.f17 4)) ro S H x S' H':=by
 unfold cFn at h
 split at h
 ·rename_i S r0 r1
  split at h
  ·rename_i f vs e3 e4 e5 hM hN ht
   cases h
   obtain ⟨h1,h2⟩:=dt_br2 hr
   simp only [Bool.and_eq_true,decide_eq_true_eq] at h1
   have key:=allF (f:=f) h1.1 h1.2 (hs.sub (.loop .here)) vs.length 0 [] (Int.le_refl _) (by omega) rfl (Int.le_refl _)
   rw [rowM_eq hM,rowN_eq hN,tmB_eq ht]
   simp only [List.map_cons,List.map_nil,e3,e4,e5]
   have h3:=run_br2 h2
   have:x = .exit 0 /\ S' = xiS (fq vs 0 vs.length []) /\ H' = stH (fq vs 0 vs.length []):=by
    unfold xiS stH
    cases hE:(fq vs 0 vs.length []).isEmpty <;> rw [hE] at h3 <;> cases h3 <;> exact ⟨rfl,rfl,rfl⟩
   obtain ⟨rfl,rfl,rfl⟩:=this
   exact loopG (H:=[mR,nR]) (by simp) key
  ·cases h
 ·cases h
noncomputable def TN0:EnvK:=TM0.addL2 17 4 [3,4,5] cFn
theorem okTN0:EnvOK Try.prog TN0.env:=
 EnvOK.addL2 okTM0 Try.func17 (show Try.f17.body = some (bod Try.f17) by kernel_rfl) (show (loops (bod Try.f17)).filter (fun b => rid b == 4) = [lpb Try.f17 4] by kernel_rfl) oFn
end Go.Hn
/- Thin: Made: the names and districts are put in. -/
namespace Go.Hn
open Go.Hx Go.Hg Go.Proofs
abbrev mE:PV:=.val (.agg #[.slice none 0 0,.slice none 0 0,.slice none 0 0,.slice none 0 0])
def shO1:Hx.S1:=⟨44,[(1,.lst 5),(4,.ptr 0 1 0 0),(5,.sl 2),(6,I64)],[.onef 30 4 .pv,.many 36 8,.many 36 8]⟩
abbrev lO1 (g:Bool) (nm:List PV) (n l:Nat) (i:Int) (q:PV) (e0:List PV) (nl:Bool) (es:List PV):LS:=([.l g nm,.n n,.n l,.i i],[.p q,.l true e0,.l nl es])
def nmE (s:ByteArray) (e:PV):PV:=.agg [iv (wI e),.lst false 46 (wL e),iv (wLv e),.val (.string ((e.cellAt 3).getS)),.val (.string s),bv ((e.cellAt 5).getB),iv ((e.cellAt 6).getI),iv ((e.cellAt 7).getI)]
def dsE (d:Int) (e:PV):PV:=.agg [iv (wI e),.lst false 46 (wL e),iv (wLv e),.val (.string ((e.cellAt 3).getS)),.val (.string ((e.cellAt 4).getS)),bv ((e.cellAt 5).getB),iv ((e.cellAt 6).getI),iv d]
def nmRow:List PV:=[.val (.string (ByteArray.mk #[])),.val (.string (ByteArray.mk #[])),.val (.string (ByteArray.mk #[65])),.val (.string (ByteArray.mk #[65])),.val (.string (ByteArray.mk #[66]))]
def nmS (v:Int):ByteArray:=((nmRow.getD (0 + (Int.tmod v 5).toNat) .any).cellAt 0).getS
def dsV (v:Int):Int:=W (1 + Int.tmod (W (Int.tdiv v 5)) 2)
def esN (es:List PV) (i v:Int):List PV:=es.set (0 + i.toNat) (nmE (nmS v) (rE es i))
def esD (es:List PV) (i v:Int):List PV:=(esN es i v).set (0 + i.toNat) (dsE (dsV v) (rE (esN es i v) i))
def bodO (es:List PV) (n l:Nat) (i v:Int) (k:Option (PX × List PV × List Row)):Option (PX × List PV × List Row):=
 bif decide (0 <= Int.tmod v 5) && decide (Int.tmod v 5 < 5) then ixR es n l i (ldR es n (stC es n (ixR (esN es i v) n l i (ldR (esN es i v) n (stC (esN es i v) n k))))) else none
theorem qO1 (g:Bool) (nm:List PV) (n l:Nat) (i:Int) (e0:List PV) (nl:Bool) (es:List PV):runB Try.prog TN0 60 7 (lpb Try.f7 3) [1,4,5,6] [4,5] (shO1.put (lO1 g nm n l i mE e0 nl es)).1 (shO1.put (lO1 g nm n l i mE e0 nl es)).2 =
 bif decide (i < (l:Int)) then
  bif decide (i < (nm.length:Int)) then bif inr nm i then bodO es n l i (W ((nm.getD i.toNat .any).cellAt 0).getI) (some (.normal,shO1.put (lO1 g nm n l (W (i + 1)) mE e0 nl (esD es i (W ((nm.getD i.toNat .any).cellAt 0).getI))))) else none
  else bodO es n l i 0 (some (.normal,shO1.put (lO1 g nm n l (W (i + 1)) mE e0 nl (esD es i 0))))
 else some (.exit 0,tm 44 [(4,.ptr 0 1 0 0),(5,.sl 2 n 0 l)],(shO1.put (lO1 g nm n l i mE e0 nl es)).2):=by kernel_rfl
end Go.Hn
/- Thin: Made as a contract. -/
namespace Go.Hn
open Go.Hx Go.Hg Go.Proofs
def okN (nm:List PV):Bool:=decide (nm.length <= 9223372036854775807) && nm.all fun e => decide (0 <= (e.cellAt 0).getI) && decide ((e.cellAt 0).getI <= 255)
def vO (nm:List PV) (i:Int):Int:=bif decide (i < (nm.length:Int)) then W ((nm.getD i.toNat .any).cellAt 0).getI else 0
theorem vO_range {nm:List PV} (h:okN nm = true) {i:Int} (h0:0 <= i):0 <= vO nm i /\ vO nm i <= 255:=by
 unfold vO
 by_cases hi:i < (nm.length:Int)
 ·rw [decide_eq_true hi,cond_true]
  unfold okN at h
  rw [Bool.and_eq_true,List.all_eq_true] at h
  have:=h.2 _ (List.getElem_mem (l:=nm) (n:=i.toNat) (by omega))
  rw [Bool.and_eq_true,decide_eq_true_eq,decide_eq_true_eq] at this
  rw [List.getD_eq_getElem?_getD,List.getElem?_eq_getElem (by omega)]
  show 0 <= W ((nm[i.toNat].cellAt 0).getI) /\ W ((nm[i.toNat].cellAt 0).getI) <= 255
  rw [W_id (by omega) (by omega)]
  exact this
 ·rw [decide_eq_false hi]; simp
def updL (nm:List PV):Int -> Nat -> List PV -> List PV
 | _,0,es => es
 | i,n + 1,es => updL nm (i + 1) n (esD es i (vO nm i))
theorem esD_len (es:List PV) (i v:Int):(esD es i v).length = es.length:=by unfold esD esN; simp
theorem updL_len (nm:List PV):∀ (n:Nat) (i:Int) (es:List PV),(updL nm i n es).length = es.length
 | 0,_,_ => rfl
 | n + 1,i,es => by unfold updL; rw [updL_len nm n,esD_len]
def isME:PV -> Bool
 | .val (.agg ⟨[.slice none 0 0,.slice none 0 0,.slice none 0 0,.slice none 0 0]⟩) => true
 | _ => false
theorem isME_eq {q:PV} (h:isME q = true):q = mE:=by
 unfold isME at h; split at h
 ·rfl
 ·cases h
def pO1:LS -> Bool
 | ([.l _ nm,.n n,.n l,.i i],[.p q,.l true _,.l _ es]) => isME q && decide (0 <= i) && decide (n = es.length) && decide (l = n) && decide (es.length <= 1000) && okN nm
 | _ => false
noncomputable def fO1:LS -> DT (PX × List PV × List Row)
 | ([.l g nm,.n n,.n l,.i i],[.p _,.l true e0,.l nl es]) => .leaf (.exit 0,tm 44 [(4,.ptr 0 1 0 0),(5,.sl 2 n 0 l)],(shO1.put (lO1 g nm n l i mE e0 nl (updL nm i ((n:Int) - i).toNat es))).2)
 | _ => .no
def mO1:LS -> Nat
 | ([.l _ _,.n n,.n _,.i i],[.p _,.l true _,.l _ _]) => ((n:Int) - i).toNat
 | _ => 0
theorem bodO_eq {es:List PV} {i v:Int} (h0:0 <= i) (h1:i < (es.length:Int)) (v0:0 <= v) (k:Option (PX × List PV × List Row)):bodO es es.length es.length i v k = k:=by
 have hl:(esN es i v).length = es.length:=by unfold esN; simp
 have t0:0 <= Int.tmod v 5:=Int.tmod_nonneg _ v0
 have t1:Int.tmod v 5 < 5:=Int.tmod_lt_of_pos _ (by omega)
 have st:∀ {es:List PV} {k:Option (PX × List PV × List Row)} {n:Nat},es.length = n -> stC es n k = k:=fun {es k n} h => by unfold stC; rw [h,beq_self_eq_true]; rfl
 unfold bodO
 rw [decide_eq_true t0,decide_eq_true t1,ixR_of rfl h0 h1,ldR_of rfl,st rfl,ixR_of hl h0 h1,ldR_of hl,st hl]
 rfl
theorem sO1:∀ s r,pO1 s = true -> (fO1 s).run = some r -> r.1 ≠ .normal /\ (runB Try.prog TN0 60 7 (lpb Try.f7 3) [1,4,5,6] [4,5] (shO1.put s).1 (shO1.put s).2 = some r \/
   ∃ s',runB Try.prog TN0 60 7 (lpb Try.f7 3) [1,4,5,6] [4,5] (shO1.put s).1 (shO1.put s).2 = some (.normal,shO1.put s') /\ pO1 s' = true /\ mO1 s' < mO1 s /\ (fO1 s').run = some r):=by
 intro t r hp hr
 unfold pO1 at hp; split at hp
 ·rename_i g nm n l i q e0 nl es
  simp only [Bool.and_eq_true,decide_eq_true_eq] at hp
  obtain ⟨⟨⟨⟨⟨hq,h1⟩,rfl⟩,rfl⟩,h4⟩,h5⟩:=hp
  have hq':=isME_eq hq
  subst hq'
  have hr':=(Option.some.inj hr).symm
  refine ⟨by rw [hr']; simp,?_⟩
  rw [show shO1.put ([.l g nm,.n es.length,.n es.length,.i i],[.p mE,.l true e0,.l nl es]) = shO1.put (lO1 g nm es.length es.length i mE e0 nl es) from rfl,qO1]
  by_cases hi:i < (es.length:Int)
  ·obtain ⟨m,hm⟩:∃ m,((es.length:Int) - i).toNat = m + 1:=⟨((es.length:Int) - i).toNat - 1,by omega⟩
   have hm2:((es.length:Int) - (i + 1)).toNat = m:=by omega
   rw [hm] at hr'
   have hv:=vO_range h5 h1
   have key:(bif decide (i < (nm.length:Int)) then bif inr nm i then bodO es es.length es.length i (W ((nm.getD i.toNat .any).cellAt 0).getI) (some (PX.normal,shO1.put (lO1 g nm es.length es.length (W (i + 1)) mE e0 nl (esD es i (W ((nm.getD i.toNat .any).cellAt 0).getI))))) else none
     else bodO es es.length es.length i 0 (some (PX.normal,shO1.put (lO1 g nm es.length es.length (W (i + 1)) mE e0 nl (esD es i 0))))) = some (PX.normal,shO1.put (lO1 g nm es.length es.length (i + 1) mE e0 nl (esD es i (vO nm i)))):=by
    rw [W_id (n:=i + 1) (by omega) (by omega)]
    unfold vO at hv ⊢
    by_cases hn:i < (nm.length:Int)
    ·rw [decide_eq_true hn,cond_true] at hv ⊢
     rw [inr_of h1 hn,cond_true,bodO_eq h1 hi hv.1]; rfl
    ·rw [decide_eq_false hn,cond_false] at hv ⊢
     rw [bodO_eq h1 hi hv.1]; rfl
   rw [decide_eq_true hi,cond_true,key]
   refine .inr ⟨lO1 g nm es.length es.length (i + 1) mE e0 nl (esD es i (vO nm i)),rfl,by simp only [pO1,Bool.and_eq_true,decide_eq_true_eq,esD_len]; exact ⟨⟨⟨⟨⟨rfl,by omega⟩,trivial⟩,trivial⟩,h4⟩,h5⟩,by simp only [mO1]; omega,?_⟩
   rw [hr']
   simp only [fO1,hm2,updL]
   rfl
  ·rw [decide_eq_false hi]
   rw [show ((es.length:Int) - i).toNat = 0 by omega] at hr'
   exact .inl (by rw [hr']; rfl)
 ·cases hp
noncomputable def TP0:EnvK:=TN0.addW 7 3 [1,4,5,6] [] shO1 pO1 fO1
theorem okTP0:EnvOK Try.prog TP0.env:=
 okTN0.addW (n:=60) Try.func7 (show Try.f7.body = some (bod Try.f7) by kernel_rfl) (show (loops (bod Try.f7)).filter (fun b => rid b == 3) = [lpb Try.f7 3] by kernel_rfl) [1,4,5,6] [4,5] [] shO1 mO1 sO1
def mkM (ws:List PV):PV:=.agg [nilV,nilV,.lst false 36 ws,nilV]
theorem qMdM (f:Bool) (L:List PV) (g:Bool) (nm:List PV):runP Try.prog TP0 100 7 [.lst f 3 L,.lst g 5 nm] =
 bif okB (madeW L) && decide ((madeW L).length <= 900) then bif (fineW L).isEmpty then some (mkM []) else
  bif pO1 (lO1 g nm (fineW L).length (fineW L).length 0 mE [] false (fineW L)) then bif (updL nm 0 (((fineW L).length:Int) - 0).toNat (fineW L)).length == (fineW L).length then
   some (mkM (((updL nm 0 (((fineW L).length:Int) - 0).toNat (fineW L)).drop 0).take (fineW L).length)) else none else none else none:=by kernel_rfl
def madeN (L nm:List PV):List PV:=updL nm 0 (fineW L).length (fineW L)
theorem madeN_len (L nm:List PV):(madeN L nm).length = (fineW L).length:=updL_len ..
theorem qMdM' (f:Bool) (L:List PV) (g:Bool) (nm:List PV) (h:okN nm = true):runP Try.prog TP0 100 7 [.lst f 3 L,.lst g 5 nm] = some (mkM (madeN L nm)):=by
 have h6:=madeW_len L
 have f6:=(okW_iff (fine_okW L)).1
 rw [qMdM,made_okB,decide_eq_true (show (madeW L).length <= 900 by omega)]
 have hl:=madeN_len L nm
 unfold madeN at hl ⊢
 cases he:(fineW L).isEmpty with
 | true =>
  have:fineW L = []:=by simpa using he
  rw [this]; rfl
 | false =>
  rw [show pO1 (lO1 g nm (fineW L).length (fineW L).length 0 mE [] false (fineW L)) = true by simp only [pO1,Bool.and_eq_true,decide_eq_true_eq]; exact ⟨⟨⟨⟨⟨rfl,Int.le_refl _⟩,trivial⟩,trivial⟩,by omega⟩,h⟩,
   show (((fineW L).length:Int) - 0).toNat = (fineW L).length by omega,hl,beq_self_eq_true,List.drop_zero,List.take_of_length_le (by rw [hl]; exact Nat.le_refl _)]
  rfl
def cMdM:List PV -> Option (DT PV)
 | [.lst _ 3 L,.lst _ 5 nm] => some (.br (okN nm) (.leaf (mkM (madeN L nm))) .no)
 | _ => none
theorem eMdM:Hx.Enters Try.prog 7:=(runP_sound okTP0 (n:=100) (qMdM' true [] true [] rfl)).1
theorem oMdM (args:List PV) (d:DT PV) (r:PV) (h:cMdM args = some d) (hr:d.run = some r):PCall Try.prog 7 args r:=by
 unfold cMdM at h; split at h
 ·cases h
  obtain ⟨h1,rfl⟩:=run_br hr
  exact (runP_sound okTP0 (n:=100) (qMdM' _ _ _ _ h1)).2
 ·cases h
end Go.Hn
/- Thin: Can in a form that is computed: lists that are in order are not sorted again. -/
namespace Go.Hn
open Go.Hx Go.Hg Go.Proofs
def inOrd:List Int -> Bool
 | [] => true
 | [_] => true
 | a :: b :: l => decide (a <= b) && inOrd (b :: l)
theorem inOrd_pw:∀ {l:List Int},inOrd l = true -> l.Pairwise fun x y => decide (x <= y) = true
 | [],_ => .nil
 | [a],_ => by simp
 | a :: b :: l,h => by
  unfold inOrd at h
  rw [Bool.and_eq_true,decide_eq_true_eq] at h
  have ih:=inOrd_pw h.2
  refine List.pairwise_cons.2 ⟨fun x hx => ?_,ih⟩
  rw [decide_eq_true_eq]
  rcases List.mem_cons.1 hx with rfl | hx
  ·exact h.1
  ·have:=List.rel_of_pairwise_cons ih hx
   simp only [decide_eq_true_eq] at this
   omega
def srt2 (es:List PV):List PV:=bif inOrd (nums es) then (nums es).map fun n => .val (.int .i64 n) else srtI es
theorem srt2_eq (es:List PV):srt2 es = srtI es:=by
 unfold srt2
 cases h:inOrd (nums es) with
 | false => rfl
 | true => unfold srtI; rw [cond_true,List.mergeSort_of_pairwise (inOrd_pw h)]
def lst2 (G:List (List PV × Nat)):List PV:=G.map fun g => .agg [.lst false 3 (((srt2 g.1).drop 0).take g.2)]
theorem lst2_eq (G:List (List PV × Nat)):lst2 G = lstX G:=by unfold lst2 lstX; simp only [srt2_eq]
def grpL2 (ws:List PV):List PV:=sortP (lst2 (R1 ws).2.2) (R1 ws).2.2.length
theorem grpL2_eq (ws:List PV):grpL2 ws = grpL ws:=by unfold grpL2 grpL; rw [lst2_eq]
def grM2 (ws:List PV):List (PV × PV):=gpA (grpL2 (nuW 0 ws)) 0 (grpL2 (nuW 0 ws)).length []
def brB2 (ws:List PV) (a:Int):Bool:=brk a (grM2 ws) (grM2 (ws.eraseIdx a.toNat)) 0 ws.length []
theorem brB2_eq (ws:List PV) (a:Int):brB2 ws a = brB ws a:=by unfold brB2 brB grM2 grM; simp only [grpL2_eq]
def canE2 (ws:List PV) (a:Int) (e:PV):Int:=
 bif bdr ws (nrE e) 0 ws.length (decide (wDs e < 1)) then 25 else bif brB2 (owl ws (nrE e) 0 ws.length) (plc ws (nrE e) a 0 ws.length 0 0) then 23 else
  bif !((wNm e).toList == (ByteArray.mk #[]).toList) && decide (ttC ws e < 2) then 24 else 0
def canW2 (ws:List PV) (id:Int):Int:=bif decide (fiW ws id 0 ws.length < 0) then 5 else canE2 ws (fiW ws id 0 ws.length) (ws.getD (fiW ws id 0 ws.length).toNat .any)
theorem canW2_eq (ws:List PV) (id:Int):canW2 ws id = canW ws id:=by unfold canW2 canW canE2 canE; simp only [brB2_eq]
def cCan2:List PV -> Option (DT PV)
 | [.agg [a,b,w,d],.val (.int .i64 id)] => match lsM a b w d with | some ws => some (.br (okC ws) (.leaf (iv (canW2 ws id))) .no) | none => none
 | _ => none
theorem oCan2 (args:List PV) (d:DT PV) (r:PV) (h:cCan2 args = some d) (hr:d.run = some r):PCall Try.prog 9 args r:=by
 unfold cCan2 at h; split at h
 ·rename_i a b w e id
  split at h
  ·rename_i ws hl
   rw [canW2_eq] at h
   exact oCan _ d r (by unfold cCan; simp only [hl]; exact h) hr
  ·cases h
 ·cases h
noncomputable def TQ0:EnvK:=((((((((((TB1.addF 9 cCan2).addF 10 cCost).addN 8 2 [(4,41,5)]).addN 15 3 [(1102,36,8)]).addDeep 15 6 3).addK 15).addIn Try.prog).addPiv 39 5 6).addK 40).addDeep 6 5 11)
theorem okTQ0:EnvOK Try.prog TQ0.env:=((((((EnvOK.addIn (((((okTB1.addF eCan oCan2).addF eCost oCost).addN 8 2 [(4,41,5)]).addN 15 3 [(1102,36,8)]).addDeep 15 6 3 |>.addK 15)).addPiv 39 5 6).addK 40).addDeep 6 5 11)))
theorem qSan14:runP Try.prog TQ0 200 6 [] = some (bv true):=by kernel_rfl
theorem eSan14:Hx.Enters Try.prog 6:=(runP_sound okTQ0 qSan14).1
def cSan14:List PV -> Option PV
 | [] => some (bv true)
 | _ => none
theorem oSan14 (args:List PV) (r:PV) (h:cSan14 args = some r):PCall Try.prog 6 args r:=by
 unfold cSan14 at h; split at h
 ·cases h; exact (runP_sound okTQ0 qSan14).2
 ·cases h
end Go.Hn
/- Thin: the laws' environment. -/
namespace Go.Hn
open Go.Hx Go.Hg Go.Proofs
noncomputable def TU0:EnvK:=(((((({}:EnvK).addO 6 cSan14).addF 7 cMdM).addF 9 cCan).addF 10 cCost).addF 13 cSt2).addF 14 cJnd
theorem okTU0:EnvOK Try.prog TU0.env:=((((((EnvOK.addO envOK_zero fun args r h => ⟨eSan14,oSan14 args r h⟩).addF eMdM oMdM).addF eCan oCan).addF eCost oCost).addF eSt2 oSt2).addF eJnd oJnd)
end Go.Hn
/- Thin: Same of points, of ways, and SameWays as contracts. -/
namespace Go.Hn
open Go.Hx Go.Hg Go.Proofs
def eqP (a b:PV):Bool:=((a.cellAt 0).getI == (b.cellAt 0).getI) && (((a.cellAt 1).getI == (b.cellAt 1).getI) && true)
def smP (A B:List PV):Int -> Nat -> Bool
 | _,0 => true
 | i,n + 1 => eqP (A.getD i.toNat .any) (B.getD i.toNat .any) && smP A B (i + 1) n
def shPa:Hx.S1:=⟨26,[(0,.lst 46),(1,.lst 46),(5,I64)],[]⟩
abbrev lPa (f:Bool) (A:List PV) (g:Bool) (B:List PV) (i:Int):LS:=([.l f A,.l g B,.i i],[])
theorem qPa (f:Bool) (A:List PV) (g:Bool) (B:List PV) (i:Int):runB Try.prog TU0 60 41 (lpb Try.f41 4) [0,1,5] [4] (shPa.put (lPa f A g B i)).1 (shPa.put (lPa f A g B i)).2 =
 bif decide (i < (A.length:Int)) then bif inr A i then bif inr B i then bif !eqP (A.getD i.toNat .any) (B.getD i.toNat .any) then some (.ret,tm 26 [(4,bv false)],[]) else some (.normal,shPa.put (lPa f A g B (W (i + 1)))) else none else none
 else some (.exit 0,tm 26 [],[]):=by kernel_rfl
def pPa:LS -> Bool
 | ([.l _ A,.l _ B,.i i],[]) => decide (0 <= i) && (decide (A.length <= 9223372036854775806) && decide (A.length = B.length))
 | _ => false
noncomputable def fPa:LS -> DT (PX × List PV × List Row)
 | ([.l _ A,.l _ B,.i i],[]) => .br (smP A B i ((A.length:Int) - i).toNat) (.leaf (.exit 0,tm 26 [],[])) (.leaf (.ret,tm 26 [(4,bv false)],[]))
 | _ => .no
def mPa:LS -> Nat
 | ([.l _ A,.l _ _,.i i],[]) => ((A.length:Int) - i).toNat
 | _ => 0
theorem sPa:∀ s r,pPa s = true -> (fPa s).run = some r -> r.1 ≠ .normal /\ (runB Try.prog TU0 60 41 (lpb Try.f41 4) [0,1,5] [4] (shPa.put s).1 (shPa.put s).2 = some r \/
   ∃ s',runB Try.prog TU0 60 41 (lpb Try.f41 4) [0,1,5] [4] (shPa.put s).1 (shPa.put s).2 = some (.normal,shPa.put s') /\ pPa s' = true /\ mPa s' < mPa s /\ (fPa s').run = some r):=by
 intro s r hp hr
 unfold pPa at hp; split at hp
 ·rename_i f A g B i
  simp only [Bool.and_eq_true,decide_eq_true_eq] at hp
  obtain ⟨h1,h2,h3⟩:=hp
  have hr':=run_br2 hr
  refine ⟨by rw [hr']; cases smP A B i ((A.length:Int) - i).toNat <;> simp,?_⟩
  rw [show shPa.put ([.l f A,.l g B,.i i],[]) = shPa.put (lPa f A g B i) from rfl,qPa]
  by_cases hi:i < (A.length:Int)
  ·obtain ⟨m,hm⟩:∃ m,((A.length:Int) - i).toNat = m + 1:=⟨((A.length:Int) - i).toNat - 1,by omega⟩
   have hm2:((A.length:Int) - (i + 1)).toNat = m:=by omega
   rw [hm] at hr'
   simp only [smP] at hr'
   rw [decide_eq_true hi,inr_of h1 hi,inr_of (es:=B) h1 (by omega),W_id (n:=i + 1) (by omega) (by omega)]
   cases he:eqP (A.getD i.toNat .any) (B.getD i.toNat .any) with
   | false => rw [he] at hr'; exact .inl (by rw [hr']; rfl)
   | true =>
    rw [he] at hr'
    refine .inr ⟨lPa f A g B (i + 1),rfl,by simp only [pPa,Bool.and_eq_true,decide_eq_true_eq]; exact ⟨by omega,h2,h3⟩,by simp only [mPa]; omega,?_⟩
    rw [hr']
    simp only [fPa,hm2,Bool.true_and]
    cases smP A B (i + 1) m <;> rfl
  ·rw [decide_eq_false hi]
   rw [show ((A.length:Int) - i).toNat = 0 by omega] at hr'
   exact .inl (by rw [hr']; rfl)
 ·cases hp
noncomputable def TPA:EnvK:=TU0.addW 41 4 [0,1,5] [] shPa pPa fPa
theorem okTPA:EnvOK Try.prog TPA.env:=
 okTU0.addW (n:=60) Try.func41 (show Try.f41.body = some (bod Try.f41) by kernel_rfl) (show (loops (bod Try.f41)).filter (fun b => rid b == 4) = [lpb Try.f41 4] by kernel_rfl) [0,1,5] [4] [] shPa mPa sPa
theorem qPs (f:Bool) (A:List PV) (g:Bool) (B:List PV):runP Try.prog TPA 60 41 [.lst f 46 A,.lst g 46 B] =
 bif (A.length:Int) != (B.length:Int) then some (bv false) else bif pPa (lPa f A g B 0) then bif smP A B 0 ((A.length:Int) - 0).toNat then some (bv true) else some (bv false) else none:=by kernel_rfl
def samePt (A B:List PV):Bool:=((A.length:Int) == (B.length:Int)) && smP A B 0 A.length
theorem qPs' (f:Bool) (A:List PV) (g:Bool) (B:List PV) (h:bigL A = true):runP Try.prog TPA 60 41 [.lst f 46 A,.lst g 46 B] = some (bv (samePt A B)):=by
 have h:=of_decide_eq_true h
 rw [qPs]
 unfold samePt bne
 cases he:((A.length:Int) == (B.length:Int)) with
 | false => rfl
 | true =>
  have he':A.length = B.length:=by have:=beq_iff_eq.1 he; omega
  rw [show pPa (lPa f A g B 0) = true by simp only [pPa,Bool.and_eq_true,decide_eq_true_eq]; exact ⟨Int.le_refl _,by omega,he'⟩,show ((A.length:Int) - 0).toNat = A.length by omega]
  cases smP A B 0 A.length <;> rfl
def cPs:List PV -> Option (DT PV)
 | [.lst _ 46 A,.lst _ 46 B] => some (.br (bigL A) (.leaf (bv (samePt A B))) .no)
 | _ => none
theorem ePs:Hx.Enters Try.prog 41:=(runP_sound okTPA (n:=60) (qPs' true [] true [] rfl)).1
theorem oPs (args:List PV) (d:DT PV) (r:PV) (h:cPs args = some d) (hr:d.run = some r):PCall Try.prog 41 args r:=by
 unfold cPs at h; split at h
 ·cases h
  obtain ⟨h1,rfl⟩:=run_br hr
  exact (runP_sound okTPA (n:=60) (qPs' _ _ _ _ h1)).2
 ·cases h
noncomputable def TPB:EnvK:=TU0.addF 41 cPs
theorem okTPB:EnvOK Try.prog TPB.env:=okTU0.addF ePs oPs
abbrev wvP (i:Int) (f:Bool) (A:List PV) (lv:Int) (c nm:ByteArray) (s:Bool) (wt ds:Int):PV:=.agg [iv i,.lst f 46 A,iv lv,.val (.string c),.val (.string nm),bv s,iv wt,iv ds]
def sme (A B:List PV) (i i' lv lv':Int) (c c' nm nm':ByteArray) (s s':Bool) (wt wt' ds ds':Int):Bool:=
 samePt A B && ((i == i') && ((lv == lv') && ((c.toList == c'.toList) && ((nm.toList == nm'.toList) && ((s == s') && ((wt == wt') && (ds == ds')))))))
theorem qSm (i:Int) (f:Bool) (A:List PV) (lv:Int) (c nm:ByteArray) (s:Bool) (wt ds:Int) (i':Int) (g:Bool) (B:List PV) (lv':Int) (c' nm':ByteArray) (s':Bool) (wt' ds':Int):
 runP Try.prog TPB 60 29 [wvP i f A lv c nm s wt ds,wvP i' g B lv' c' nm' s' wt' ds'] =
 bif bigL A then bif samePt A B then bif i == i' then bif lv == lv' then bif c.toList == c'.toList then bif nm.toList == nm'.toList then bif s == s' then bif wt == wt' then some (bv (ds == ds'))
  else some (bv false) else some (bv false) else some (bv false) else some (bv false) else some (bv false) else some (bv false) else some (bv false) else none:=by kernel_rfl
def cSm : List PV → Option (DT PV)
  | [.agg [.val (.int .i64 i), .lst _ 46 A, .val (.int .i64 lv), .val (.string c), .val (.string nm), .val (.bool s), .val (.int .i64 wt), .val (.int .i64 ds)],
     .agg [.val (.int .i64 i'), .lst _ 46 B, .val (.int .i64 lv'), .val (.string c'), .val (.string nm'), .val (.bool s'), .val (.int .i64 wt'), .val (.int .i64 ds')]] =>
    some (.br (bigL A) (.leaf (bv (sme A B i i' lv lv' c c' nm nm' s s' wt wt' ds ds'))) .no)
  | _ => none
theorem qSm' (i:Int) (f:Bool) (A:List PV) (lv:Int) (c nm:ByteArray) (s:Bool) (wt ds:Int) (i':Int) (g:Bool) (B:List PV) (lv':Int) (c' nm':ByteArray) (s':Bool) (wt' ds':Int) (h:bigL A = true):
 runP Try.prog TPB 60 29 [wvP i f A lv c nm s wt ds,wvP i' g B lv' c' nm' s' wt' ds'] = some (bv (sme A B i i' lv lv' c c' nm nm' s s' wt wt' ds ds')):=by
 rw [qSm,h]
 unfold sme
 cases samePt A B <;> cases i == i' <;> cases lv == lv' <;> cases c.toList == c'.toList <;> cases nm.toList == nm'.toList <;> cases s == s' <;> cases wt == wt' <;> rfl
theorem eSm:Hx.Enters Try.prog 29:=(runP_sound okTPB (n:=60) (qSm' 0 true [] 0 .empty .empty false 0 0 0 true [] 0 .empty .empty false 0 0 rfl)).1
theorem oSm (args:List PV) (d:DT PV) (r:PV) (h:cSm args = some d) (hr:d.run = some r):PCall Try.prog 29 args r:=by
 unfold cSm at h; split at h
 ·cases h
  obtain ⟨h1,rfl⟩:=run_br hr
  exact (runP_sound okTPB (n:=60) (qSm' _ _ _ _ _ _ _ _ _ _ _ _ _ _ _ _ _ _ h1)).2
 ·cases h
noncomputable def TPC:EnvK:=TPB.addF 29 cSm
theorem okTPC:EnvOK Try.prog TPC.env:=okTPB.addF eSm oSm
def smeE (e d:PV):Bool:=sme (wL e) (wL d) (wI e) (wI d) (wLv e) (wLv d) ((e.cellAt 3).getS) ((d.cellAt 3).getS) ((e.cellAt 4).getS) ((d.cellAt 4).getS) ((e.cellAt 5).getB) ((d.cellAt 5).getB) ((e.cellAt 6).getI) ((d.cellAt 6).getI) ((e.cellAt 7).getI) ((d.cellAt 7).getI)
def smW (A B:List PV):Int -> Nat -> Bool
 | _,0 => true
 | i,n + 1 => smeE (A.getD i.toNat .any) (B.getD i.toNat .any) && smW A B (i + 1) n
def shPb:Hx.S1:=⟨29,[(0,.lst 36),(1,.lst 36),(5,I64)],[]⟩
abbrev lPb (f:Bool) (A:List PV) (g:Bool) (B:List PV) (i:Int):LS:=([.l f A,.l g B,.i i],[])
theorem qPb (f:Bool) (A:List PV) (g:Bool) (B:List PV) (i:Int):runB Try.prog TPC 60 12 (lpb Try.f12 4) [0,1,5] [4] (shPb.put (lPb f A g B i)).1 (shPb.put (lPb f A g B i)).2 =
 bif decide (i < (A.length:Int)) then bif inr A i then bif inr B i then bif bigL (wL (A.getD i.toNat .any)) then bif !smeE (A.getD i.toNat .any) (B.getD i.toNat .any) then some (.ret,tm 29 [(4,bv false)],[]) else some (.normal,shPb.put (lPb f A g B (W (i + 1)))) else none else none else none
 else some (.exit 0,tm 29 [],[]):=by kernel_rfl
def pPb:LS -> Bool
 | ([.l _ A,.l _ B,.i i],[]) => decide (0 <= i) && (okB A && (decide (A.length <= 1000) && decide (A.length = B.length)))
 | _ => false
noncomputable def fPb:LS -> DT (PX × List PV × List Row)
 | ([.l _ A,.l _ B,.i i],[]) => .br (smW A B i ((A.length:Int) - i).toNat) (.leaf (.exit 0,tm 29 [],[])) (.leaf (.ret,tm 29 [(4,bv false)],[]))
 | _ => .no
def mPb:LS -> Nat
 | ([.l _ A,.l _ _,.i i],[]) => ((A.length:Int) - i).toNat
 | _ => 0
theorem sPb:∀ s r,pPb s = true -> (fPb s).run = some r -> r.1 ≠ .normal /\ (runB Try.prog TPC 60 12 (lpb Try.f12 4) [0,1,5] [4] (shPb.put s).1 (shPb.put s).2 = some r \/
   ∃ s',runB Try.prog TPC 60 12 (lpb Try.f12 4) [0,1,5] [4] (shPb.put s).1 (shPb.put s).2 = some (.normal,shPb.put s') /\ pPb s' = true /\ mPb s' < mPb s /\ (fPb s').run = some r):=by
 intro s r hp hr
 unfold pPb at hp; split at hp
 ·rename_i f A g B i
  simp only [Bool.and_eq_true,decide_eq_true_eq] at hp
  obtain ⟨h1,h0,h2,h3⟩:=hp
  have hr':=run_br2 hr
  refine ⟨by rw [hr']; cases smW A B i ((A.length:Int) - i).toNat <;> simp,?_⟩
  rw [show shPb.put ([.l f A,.l g B,.i i],[]) = shPb.put (lPb f A g B i) from rfl,qPb]
  by_cases hi:i < (A.length:Int)
  ·obtain ⟨m,hm⟩:∃ m,((A.length:Int) - i).toNat = m + 1:=⟨((A.length:Int) - i).toNat - 1,by omega⟩
   have hm2:((A.length:Int) - (i + 1)).toNat = m:=by omega
   rw [hm] at hr'
   simp only [smW] at hr'
   rw [decide_eq_true hi,inr_of h1 hi,inr_of (es:=B) h1 (by omega),W_id (n:=i + 1) (by omega) (by omega),okB_at h0 h1 hi]
   cases he:smeE (A.getD i.toNat .any) (B.getD i.toNat .any) with
   | false => rw [he] at hr'; exact .inl (by rw [hr']; rfl)
   | true =>
    rw [he] at hr'
    refine .inr ⟨lPb f A g B (i + 1),rfl,by simp only [pPb,Bool.and_eq_true,decide_eq_true_eq]; exact ⟨by omega,h0,h2,h3⟩,by simp only [mPb]; omega,?_⟩
    rw [hr']
    simp only [fPb,hm2,Bool.true_and]
    cases smW A B (i + 1) m <;> rfl
  ·rw [decide_eq_false hi]
   rw [show ((A.length:Int) - i).toNat = 0 by omega] at hr'
   exact .inl (by rw [hr']; rfl)
 ·cases hp
noncomputable def TPD:EnvK:=TPC.addW 12 4 [0,1,5] [] shPb pPb fPb
theorem okTPD:EnvOK Try.prog TPD.env:=
 okTPC.addW (n:=60) Try.func12 (show Try.f12.body = some (bod Try.f12) by kernel_rfl) (show (loops (bod Try.f12)).filter (fun b => rid b == 4) = [lpb Try.f12 4] by kernel_rfl) [0,1,5] [4] [] shPb mPb sPb
theorem qSW (f:Bool) (A:List PV) (g:Bool) (B:List PV):runP Try.prog TPD 60 12 [.lst f 36 A,.lst g 36 B] =
 bif (A.length:Int) != (B.length:Int) then some (bv false) else bif pPb (lPb f A g B 0) then bif smW A B 0 ((A.length:Int) - 0).toNat then some (bv true) else some (bv false) else none:=by kernel_rfl
def sameWs (A B:List PV):Bool:=((A.length:Int) == (B.length:Int)) && smW A B 0 A.length
def okSW (A:List PV):Bool:=okB A && decide (A.length <= 1000)
theorem qSW' (f:Bool) (A:List PV) (g:Bool) (B:List PV) (h:okSW A = true):runP Try.prog TPD 60 12 [.lst f 36 A,.lst g 36 B] = some (bv (sameWs A B)):=by
 unfold okSW at h
 rw [Bool.and_eq_true,decide_eq_true_eq] at h
 rw [qSW]
 unfold sameWs bne
 cases he:((A.length:Int) == (B.length:Int)) with
 | false => rfl
 | true =>
  have he':A.length = B.length:=by have:=beq_iff_eq.1 he; omega
  rw [show pPb (lPb f A g B 0) = true by simp only [pPb,Bool.and_eq_true,decide_eq_true_eq]; exact ⟨Int.le_refl _,h.1,h.2,he'⟩,show ((A.length:Int) - 0).toNat = A.length by omega]
  cases smW A B 0 A.length <;> rfl
def cSW:List PV -> Option (DT PV)
 | [.lst _ 36 A,.lst _ 36 B] => some (.br (okSW A) (.leaf (bv (sameWs A B))) .no)
 | _ => none
theorem eSW:Hx.Enters Try.prog 12:=(runP_sound okTPD (n:=60) (qSW' true [] true [] rfl)).1
theorem oSW (args:List PV) (d:DT PV) (r:PV) (h:cSW args = some d) (hr:d.run = some r):PCall Try.prog 12 args r:=by
 unfold cSW at h; split at h
 ·cases h
  obtain ⟨h1,rfl⟩:=run_br hr
  exact (runP_sound okTPD (n:=60) (qSW' _ _ _ _ h1)).2
 ·cases h
theorem smP_self (A:List PV):∀ (n:Nat) (i:Int),smP A A i n = true
 | 0,_ => rfl
 | n + 1,i => by unfold smP eqP; rw [smP_self A n,beq_self_eq_true,beq_self_eq_true]; rfl
theorem sme_self (e:PV):smeE e e = true:=by
 unfold smeE sme samePt
 rw [smP_self]
 simp only [beq_self_eq_true,Bool.and_self]
theorem smW_self (A:List PV):∀ (n:Nat) (i:Int),smW A A i n = true
 | 0,_ => rfl
 | n + 1,i => by unfold smW; rw [smW_self A n,sme_self]; rfl
theorem sameWs_self (A:List PV):sameWs A A = true:=by unfold sameWs; rw [smW_self,beq_self_eq_true]; rfl
end Go.Hn
/- Thin: ThinOwn: its environments. -/
namespace Go.Hn
open Go.Hx Go.Hg Go.Proofs
def mkE (b:Nat) (e:PV):PV:=.agg [iv (wI e),.lst false 46 (match b with | 2 => [(wL e).getD 0 .any,(wL e).getD 1 .any] | _ => [(wL e).getD 0 .any,(wL e).getD 1 .any,(wL e).getD 2 .any]),iv (wLv e),.val (.string ((e.cellAt 3).getS)),.val (.string ((e.cellAt 4).getS)),bv ((e.cellAt 5).getB),iv ((e.cellAt 6).getI),iv ((e.cellAt 7).getI)]
def mkX:List Nat -> Nat -> List PV -> List PV
 | [],_,_ => []
 | b :: bs,j,X => mkE b (X.getD j .any) :: mkX bs (j + 1) X
noncomputable def okX (bs:List Nat) (ws:List PV) (k:Int):Bool:=decide (ws.length <= 6) && (decide (0 <= k) && (decide (k < (ws.length:Int)) && same (ws.eraseIdx k.toNat) (mkX bs 0 (ws.eraseIdx k.toNat))))
noncomputable def cWoX (bs:List Nat):List PV -> Option (DT PV)
 | [.lst _ 36 es,.val (.int .i64 k)] => some (.br (okX bs es k) (.leaf (.lst false 36 (mkX bs 0 (es.eraseIdx k.toNat)))) .no)
 | _ => none
theorem oWoX (bs:List Nat) (args:List PV) (d:DT PV) (r:PV) (h:cWoX bs args = some d) (hr:d.run = some r):PCall Try.prog 26 args r:=by
 unfold cWoX at h; split at h
 ·rename_i f es k
  cases h
  obtain ⟨h1,rfl⟩:=run_br hr
  unfold okX at h1
  simp only [Bool.and_eq_true,decide_eq_true_eq,same_iff] at h1
  rw [<- h1.2.2.2]
  exact qWo f es k h1.1 h1.2.1 h1.2.2.1
 ·cases h
def cCan0:List PV -> Option (DT PV)
 | [.agg [a,b,w,d],.val (.int .i64 id)] => match lsM a b w d with | some ws => some (.br (okC ws && (canW ws id == 0)) (.leaf (iv 0)) .no) | none => none
 | _ => none
theorem oCan0 (args:List PV) (d:DT PV) (r:PV) (h:cCan0 args = some d) (hr:d.run = some r):PCall Try.prog 9 args r:=by
 unfold cCan0 at h; split at h
 ·rename_i a b w e id
  split at h
  ·rename_i ws hl
   cases h
   obtain ⟨h1,rfl⟩:=run_br hr
   rw [Bool.and_eq_true,beq_iff_eq] at h1
   refine oCan _ (.br (okC ws) (.leaf (iv (canW ws id))) .no) _ (by unfold cCan; simp only [hl]) ?_
   rw [h1.1,h1.2]
   rfl
  ·cases h
 ·cases h
noncomputable def TW0:EnvK:=((((((((((TB1.addO 6 cSan14).addF 7 cMdM).addF 12 cSW).addF 9 cCan0).addO 21 cE0).addO 24 cF0).addO 28 cF0).addK 11).addK 25).addK 27).addK 23
theorem okTW0:EnvOK Try.prog TW0.env:=((((((((((okTB1.addO fun args r h => ⟨eSan14,oSan14 args r h⟩).addF eMdM oMdM).addF eSW oSW).addF eCan oCan0).addO oE0).addO oF0).addO oP0).addK 11).addK 25).addK 27).addK 23
noncomputable def TWx (bs:List Nat):EnvK:=((((((TW0.addF 26 (cWoX bs)).addK 26).addK 18).addK 21).addK 24).addK 28).addChain 11 4
theorem okTWx (bs:List Nat):EnvOK Try.prog (TWx bs).env:=((((((okTW0.addF eWo (oWoX bs)).addK 26).addK 18).addK 21).addK 24).addK 28).addChain 11 4
abbrev mapW:Hx.X1:=.agg [.nil,.nil,.lst 36,.nil]
abbrev mW0:PV:=.val (.agg #[.slice none 0 0,.slice none 0 0,.slice none 0 0,.slice none 0 0])
def shOw:Hx.S1:=⟨0,[],[.onef 30 4 mapW,.onef 30 4 mapW,.onef 30 4 mapW,.onef 30 4 .pv]⟩
noncomputable abbrev rwO (M:List PV):List Row:=(shOw.put ([],[.l false M,.l false M,.l false M,.p mW0])).2
def QOw (bs:List Nat):Prop:=∀ (f:Bool) (L:List PV) (g:Bool) (nm:List PV) (id:Int),runP Try.prog (TWx bs) 200 4 [.lst f 3 L,.lst g 5 nm,iv id] =
 bif okN nm then bif okN nm then bif okC (madeN L nm) && (canW (madeN L nm) (Int.tmod id 7) == 0) then bif bigL (madeN L nm) then bif okX bs (madeN L nm) (fiW (madeN L nm) (Int.tmod id 7) 0 (madeN L nm).length) then
  bif sameR (rwO (madeN L nm)) (rwO (madeN L nm)) then bif okSW (madeN L nm) then some (bv (sameWs (madeN L nm) (madeN L nm))) else none else none else none else none else none else none else none
end Go.Hn
/- Thin: ThinOwn: where Apply copies, for each number of ways and of points (printed by genow.py). -/
namespace Go.Hn
open Go.Hx Go.Hg Go.Proofs
theorem qow:QOw []:=by intro f L g nm id; kernel_rfl
theorem qow2:QOw [2]:=by intro f L g nm id; kernel_rfl
theorem qow3:QOw [3]:=by intro f L g nm id; kernel_rfl
theorem qow22:QOw [2,2]:=by intro f L g nm id; kernel_rfl
theorem qow23:QOw [2,3]:=by intro f L g nm id; kernel_rfl
theorem qow32:QOw [3,2]:=by intro f L g nm id; kernel_rfl
theorem qow33:QOw [3,3]:=by intro f L g nm id; kernel_rfl
theorem qow222:QOw [2,2,2]:=by intro f L g nm id; kernel_rfl
theorem qow223:QOw [2,2,3]:=by intro f L g nm id; kernel_rfl
theorem qow232:QOw [2,3,2]:=by intro f L g nm id; kernel_rfl
theorem qow233:QOw [2,3,3]:=by intro f L g nm id; kernel_rfl
theorem qow322:QOw [3,2,2]:=by intro f L g nm id; kernel_rfl
theorem qow323:QOw [3,2,3]:=by intro f L g nm id; kernel_rfl
theorem qow332:QOw [3,3,2]:=by intro f L g nm id; kernel_rfl
theorem qow333:QOw [3,3,3]:=by intro f L g nm id; kernel_rfl
theorem qow2222:QOw [2,2,2,2]:=by intro f L g nm id; kernel_rfl
theorem qow2223:QOw [2,2,2,3]:=by intro f L g nm id; kernel_rfl
theorem qow2232:QOw [2,2,3,2]:=by intro f L g nm id; kernel_rfl
theorem qow2233:QOw [2,2,3,3]:=by intro f L g nm id; kernel_rfl
theorem qow2322:QOw [2,3,2,2]:=by intro f L g nm id; kernel_rfl
theorem qow2323:QOw [2,3,2,3]:=by intro f L g nm id; kernel_rfl
theorem qow2332:QOw [2,3,3,2]:=by intro f L g nm id; kernel_rfl
theorem qow2333:QOw [2,3,3,3]:=by intro f L g nm id; kernel_rfl
theorem qow3222:QOw [3,2,2,2]:=by intro f L g nm id; kernel_rfl
theorem qow3223:QOw [3,2,2,3]:=by intro f L g nm id; kernel_rfl
theorem qow3232:QOw [3,2,3,2]:=by intro f L g nm id; kernel_rfl
theorem qow3233:QOw [3,2,3,3]:=by intro f L g nm id; kernel_rfl
theorem qow3322:QOw [3,3,2,2]:=by intro f L g nm id; kernel_rfl
theorem qow3323:QOw [3,3,2,3]:=by intro f L g nm id; kernel_rfl
theorem qow3332:QOw [3,3,3,2]:=by intro f L g nm id; kernel_rfl
theorem qow3333:QOw [3,3,3,3]:=by intro f L g nm id; kernel_rfl
end Go.Hn
/- Thin: ThinOwn: where Apply copies, for each number of ways and of points (printed by genow.py). -/
namespace Go.Hn
open Go.Hx Go.Hg Go.Proofs
theorem qow22222:QOw [2,2,2,2,2]:=by intro f L g nm id; kernel_rfl
theorem qow22223:QOw [2,2,2,2,3]:=by intro f L g nm id; kernel_rfl
theorem qow22232:QOw [2,2,2,3,2]:=by intro f L g nm id; kernel_rfl
theorem qow22233:QOw [2,2,2,3,3]:=by intro f L g nm id; kernel_rfl
theorem qow22322:QOw [2,2,3,2,2]:=by intro f L g nm id; kernel_rfl
theorem qow22323:QOw [2,2,3,2,3]:=by intro f L g nm id; kernel_rfl
theorem qow22332:QOw [2,2,3,3,2]:=by intro f L g nm id; kernel_rfl
theorem qow22333:QOw [2,2,3,3,3]:=by intro f L g nm id; kernel_rfl
theorem qow23222:QOw [2,3,2,2,2]:=by intro f L g nm id; kernel_rfl
theorem qow23223:QOw [2,3,2,2,3]:=by intro f L g nm id; kernel_rfl
theorem qow23232:QOw [2,3,2,3,2]:=by intro f L g nm id; kernel_rfl
theorem qow23233:QOw [2,3,2,3,3]:=by intro f L g nm id; kernel_rfl
theorem qow23322:QOw [2,3,3,2,2]:=by intro f L g nm id; kernel_rfl
theorem qow23323:QOw [2,3,3,2,3]:=by intro f L g nm id; kernel_rfl
theorem qow23332:QOw [2,3,3,3,2]:=by intro f L g nm id; kernel_rfl
theorem qow23333:QOw [2,3,3,3,3]:=by intro f L g nm id; kernel_rfl
end Go.Hn
/- Thin: ThinOwn: where Apply copies, for each number of ways and of points (printed by genow.py). -/
namespace Go.Hn
open Go.Hx Go.Hg Go.Proofs
theorem qow32222:QOw [3,2,2,2,2]:=by intro f L g nm id; kernel_rfl
theorem qow32223:QOw [3,2,2,2,3]:=by intro f L g nm id; kernel_rfl
theorem qow32232:QOw [3,2,2,3,2]:=by intro f L g nm id; kernel_rfl
theorem qow32233:QOw [3,2,2,3,3]:=by intro f L g nm id; kernel_rfl
theorem qow32322:QOw [3,2,3,2,2]:=by intro f L g nm id; kernel_rfl
theorem qow32323:QOw [3,2,3,2,3]:=by intro f L g nm id; kernel_rfl
theorem qow32332:QOw [3,2,3,3,2]:=by intro f L g nm id; kernel_rfl
theorem qow32333:QOw [3,2,3,3,3]:=by intro f L g nm id; kernel_rfl
theorem qow33222:QOw [3,3,2,2,2]:=by intro f L g nm id; kernel_rfl
theorem qow33223:QOw [3,3,2,2,3]:=by intro f L g nm id; kernel_rfl
theorem qow33232:QOw [3,3,2,3,2]:=by intro f L g nm id; kernel_rfl
theorem qow33233:QOw [3,3,2,3,3]:=by intro f L g nm id; kernel_rfl
theorem qow33322:QOw [3,3,3,2,2]:=by intro f L g nm id; kernel_rfl
theorem qow33323:QOw [3,3,3,2,3]:=by intro f L g nm id; kernel_rfl
theorem qow33332:QOw [3,3,3,3,2]:=by intro f L g nm id; kernel_rfl
theorem qow33333:QOw [3,3,3,3,3]:=by intro f L g nm id; kernel_rfl
end Go.Hn
/- Thin: ThinOwn: where Apply copies, for each number of ways and of points (printed by genow.py). -/
namespace Go.Hn
open Go.Hx Go.Hg Go.Proofs
theorem qow_all:∀ bs:List Nat,bs.length <= 5 -> (∀ b ∈ bs,b = 2 \/ b = 3) -> QOw bs
 | [],_,_ => qow
 | [a],_,h => by
  rcases h a (by simp) with rfl | rfl
  ·exact qow2
  ·exact qow3
 | [a,b],_,h => by
  rcases h a (by simp) with rfl | rfl <;> rcases h b (by simp) with rfl | rfl
  ·exact qow22
  ·exact qow23
  ·exact qow32
  ·exact qow33
 | [a,b,c],_,h => by
  rcases h a (by simp) with rfl | rfl <;> rcases h b (by simp) with rfl | rfl <;> rcases h c (by simp) with rfl | rfl
  ·exact qow222
  ·exact qow223
  ·exact qow232
  ·exact qow233
  ·exact qow322
  ·exact qow323
  ·exact qow332
  ·exact qow333
 | [a,b,c,d],_,h => by
  rcases h a (by simp) with rfl | rfl <;> rcases h b (by simp) with rfl | rfl <;> rcases h c (by simp) with rfl | rfl <;> rcases h d (by simp) with rfl | rfl
  ·exact qow2222
  ·exact qow2223
  ·exact qow2232
  ·exact qow2233
  ·exact qow2322
  ·exact qow2323
  ·exact qow2332
  ·exact qow2333
  ·exact qow3222
  ·exact qow3223
  ·exact qow3232
  ·exact qow3233
  ·exact qow3322
  ·exact qow3323
  ·exact qow3332
  ·exact qow3333
 | [a,b,c,d,e],_,h => by
  rcases h a (by simp) with rfl | rfl <;> rcases h b (by simp) with rfl | rfl <;> rcases h c (by simp) with rfl | rfl <;> rcases h d (by simp) with rfl | rfl <;> rcases h e (by simp) with rfl | rfl
  ·exact qow22222
  ·exact qow22223
  ·exact qow22232
  ·exact qow22233
  ·exact qow22322
  ·exact qow22323
  ·exact qow22332
  ·exact qow22333
  ·exact qow23222
  ·exact qow23223
  ·exact qow23232
  ·exact qow23233
  ·exact qow23322
  ·exact qow23323
  ·exact qow23332
  ·exact qow23333
  ·exact qow32222
  ·exact qow32223
  ·exact qow32232
  ·exact qow32233
  ·exact qow32322
  ·exact qow32323
  ·exact qow32332
  ·exact qow32333
  ·exact qow33222
  ·exact qow33223
  ·exact qow33232
  ·exact qow33233
  ·exact qow33322
  ·exact qow33323
  ·exact qow33332
  ·exact qow33333
 | _ :: _ :: _ :: _ :: _ :: _ :: _,h,_ => by simp only [List.length_cons] at h; omega
end Go.Hn
/- Thin: what is made: numbers, lines and districts. -/
namespace Go.Hn
open Go.Hx Go.Hg Go.Proofs
theorem map_set_same {α β:Type} (F:α -> β):∀ {l:List α} {k:Nat} {x:α},(∀ y,l[k]? = some y -> F x = F y) -> (l.set k x).map F = l.map F
 | [],_,_,_ => rfl
 | y :: l,0,x,h => by simp [h y rfl]
 | y :: l,k + 1,x,h => by simp only [List.set_cons_succ,List.map_cons]; rw [map_set_same F fun z hz => h z (by simpa using hz)]
theorem rE_at {es:List PV} {i:Int} {y:PV} (h:es[0 + i.toNat]? = some y):rE es i = y:=by
 unfold rE
 rw [List.getD_eq_getElem?_getD,h]; rfl
theorem esD_map {β:Type} (F:PV -> β) (h1:∀ s e,F (nmE s e) = F e) (h2:∀ d e,F (dsE d e) = F e) (es:List PV) (i v:Int):(esD es i v).map F = es.map F:=by
 have e1:(esN es i v).map F = es.map F:=map_set_same F fun y hy => by rw [h1,rE_at hy]
 exact (map_set_same F fun y hy => by rw [h2,rE_at hy]).trans e1
theorem updL_map {β:Type} (F:PV -> β) (h1:∀ s e,F (nmE s e) = F e) (h2:∀ d e,F (dsE d e) = F e) (nm:List PV):∀ (n:Nat) (i:Int) (es:List PV),(updL nm i n es).map F = es.map F
 | 0,_,_ => rfl
 | n + 1,i,es => by
  unfold updL
  rw [updL_map F h1 h2 nm n]; exact esD_map F h1 h2 ..
theorem esD_get (es:List PV) (i v:Int) (j:Nat):(esD es i v)[j]? = if 0 + i.toNat = j then (if 0 + i.toNat < es.length then some (dsE (dsV v) (rE (esN es i v) i)) else none) else es[j]?:=by
 unfold esD
 rw [List.getElem?_set,show (esN es i v).length = es.length by unfold esN; simp]
 by_cases h:0 + i.toNat = j
 ·rw [if_pos h,if_pos h]
 ·rw [if_neg h,if_neg h]
  unfold esN
  rw [List.getElem?_set,if_neg h]
theorem madeN_map {β:Type} (F:PV -> β) (h1:∀ s e,F (nmE s e) = F e) (h2:∀ d e,F (dsE d e) = F e) (L nm:List PV):(madeN L nm).map F = (fineW L).map F:=updL_map F h1 h2 ..
theorem all_of_map {β:Type} {F:PV -> β} {p:β -> Bool} {l l':List PV} (h:l.map F = l'.map F) (h2:l'.all (fun e => p (F e)) = true):l.all (fun e => p (F e)) = true:=by
 rw [List.all_eq_true] at h2 ⊢
 intro e he
 have:F e ∈ l'.map F:=by rw [<- h]; exact List.mem_map_of_mem he
 obtain ⟨d,hd,hx⟩:=List.mem_map.1 this
 rw [<- hx]
 exact h2 d hd
theorem madeN_okW (L nm:List PV):okW (madeN L nm) = true:=by
 have h:=fine_okW L
 unfold okW at h ⊢
 rw [madeN_len]
 rw [Bool.and_eq_true] at h ⊢
 exact ⟨h.1,all_of_map (F:=wL) (p:=stB) (madeN_map wL (fun _ _ => rfl) (fun _ _ => rfl) L nm) h.2⟩
theorem madeN_okB (L nm:List PV):okB (madeN L nm) = true:=by
 have h:=fine_okB L
 unfold okB at h ⊢
 rw [Bool.and_eq_true] at h ⊢
 refine ⟨?_,all_of_map (F:=wL) (p:=bigL) (madeN_map wL (fun _ _ => rfl) (fun _ _ => rfl) L nm) h.2⟩
 rw [show bigL (madeN L nm) = bigL (fineW L) by unfold bigL; rw [madeN_len]]
 exact h.1
end Go.Hn
/- Thin: the law ThinOwn. -/
namespace Go.Hn
open Go.Hx Go.Hg Go.Proofs
def cApE:List PV -> Option (DT PV)
 | [.agg [.val (.slice none 0 0),.val (.slice none 0 0),.lst _ 36 ws,.val (.slice none 0 0)],.val (.int .i64 id)] => some (.br (okC ws && !(canW ws id == 0)) (.leaf (.tup [.agg [nilV,nilV,nilV,nilV],iv (canW ws id)])) .no)
 | _ => none
theorem eApE:Hx.Enters Try.prog 11:=(runP_sound okTPH (n:=100) ((qAp true [] 0).trans rfl)).1
theorem oApE (args:List PV) (d:DT PV) (r:PV) (h:cApE args = some d) (hr:d.run = some r):PCall Try.prog 11 args r:=by
 unfold cApE at h; split at h
 ·rename_i f ws id
  cases h
  obtain ⟨h1,rfl⟩:=run_br hr
  rw [Bool.and_eq_true] at h1
  exact (runP_sound okTPH (n:=100) ((qAp f ws id).trans (by rw [h1.1,show (canW ws id != 0) = true from h1.2]; rfl))).2
 ·cases h
noncomputable def TWe:EnvK:=((({}:EnvK).addO 6 cSan14).addF 7 cMdM).addF 12 cSW |>.addF 11 cApE
theorem okTWe:EnvOK Try.prog TWe.env:=(((EnvOK.addO envOK_zero fun args r h => ⟨eSan14,oSan14 args r h⟩).addF eMdM oMdM).addF eSW oSW).addF eApE oApE
theorem qOwE (f:Bool) (L:List PV) (g:Bool) (nm:List PV) (id:Int):runP Try.prog TWe 100 4 [.lst f 3 L,.lst g 5 nm,iv id] =
 bif okN nm then bif okN nm then bif okC (madeN L nm) && !(canW (madeN L nm) (Int.tmod id 7) == 0) then bif canW (madeN L nm) (Int.tmod id 7) != 0 then some (bv true) else
  bif okSW (madeN L nm) then some (bv (sameWs (madeN L nm) (madeN L nm))) else none else none else none else none:=by kernel_rfl
theorem updL_form {nm:List PV}:∀ (n i:Nat) (es:List PV),i + n = es.length -> (∀ j (hj:j < es.length),j < i -> nrE es[j] = es[j]) -> ∀ e ∈ updL nm (i:Int) n es,nrE e = e
 | 0,i,es,hl,hd => fun e he => by
  obtain ⟨j,hj,rfl⟩:=List.mem_iff_getElem.1 he
  exact hd j hj (by have:j < es.length:=hj; omega)
 | n + 1,i,es,hl,hd => by
  unfold updL
  rw [show (i:Int) + 1 = ((i + 1:Nat):Int) by omega]
  refine updL_form n (i + 1) _ (by rw [esD_len]; omega) fun j hj hji => ?_
  have hg:=esD_get es (i:Int) (vO nm (i:Int)) j
  by_cases e:j = i
  ·subst e
   rw [if_pos (by omega),if_pos (by omega)] at hg
   rw [(List.getElem?_eq_some_iff.1 hg).2]
   rfl
  ·rw [if_neg (by omega),List.getElem?_eq_getElem (l:=es) (by rw [esD_len] at hj; exact hj)] at hg
   rw [(List.getElem?_eq_some_iff.1 hg).2]
   exact hd j _ (by omega)
theorem madeN_form (L nm:List PV):∀ e ∈ madeN L nm,nrE e = e:=updL_form (fineW L).length 0 _ (by omega) fun j _ hj => by omega
theorem madeN_pts (L nm:List PV):∀ e ∈ madeN L nm,(wL e).length = 2 \/ (wL e).length = 3:=by
 have h:=all_of_map (F:=wL) (p:=fun l => decide (l.length = 2) || decide (l.length = 3)) (madeN_map wL (fun _ _ => rfl) (fun _ _ => rfl) L nm) (by
  rw [List.all_eq_true]
  intro e he
  obtain ⟨k,a,_,_,rfl⟩:=made_mem ((fine_facts L).1.subset he)
  rw [wL_mW]
  have:=mPs_len L a
  rw [Bool.or_eq_true,decide_eq_true_eq,decide_eq_true_eq]
  omega)
 rw [List.all_eq_true] at h
 intro e he
 have:=h e he
 rw [Bool.or_eq_true,decide_eq_true_eq,decide_eq_true_eq] at this
 exact this
theorem mkE_eq {e:PV} (h:nrE e = e) {b:Nat} (hb:(wL e).length = b) (h2:b = 2 \/ b = 3):mkE b e = e:=by
 rcases h2 with rfl | rfl
 ·have key:[(wL e).getD 0 .any,(wL e).getD 1 .any] = wL e:=by
   generalize wL e = M at hb
   match M,hb with
   | [p,q],_ => rfl
  refine Eq.trans ?_ h
  show PV.agg [iv (wI e),.lst false 46 [(wL e).getD 0 .any,(wL e).getD 1 .any],iv (wLv e),.val (.string ((e.cellAt 3).getS)),.val (.string ((e.cellAt 4).getS)),bv ((e.cellAt 5).getB),iv ((e.cellAt 6).getI),iv ((e.cellAt 7).getI)] = _
  rw [key]
  rfl
 ·have key:[(wL e).getD 0 .any,(wL e).getD 1 .any,(wL e).getD 2 .any] = wL e:=by
   generalize wL e = M at hb
   match M,hb with
   | [p,q,r],_ => rfl
  refine Eq.trans ?_ h
  show PV.agg [iv (wI e),.lst false 46 [(wL e).getD 0 .any,(wL e).getD 1 .any,(wL e).getD 2 .any],iv (wLv e),.val (.string ((e.cellAt 3).getS)),.val (.string ((e.cellAt 4).getS)),bv ((e.cellAt 5).getB),iv ((e.cellAt 6).getI),iv ((e.cellAt 7).getI)] = _
  rw [key]
  rfl
theorem mkX_eq:∀ (X Y:List PV) (j:Nat),Y.drop j = X -> (∀ e ∈ X,nrE e = e /\ ((wL e).length = 2 \/ (wL e).length = 3)) -> mkX (X.map fun e => (wL e).length) j Y = X
 | [],_,_,_,_ => rfl
 | e :: X,Y,j,hd,h => by
  have hj:j < Y.length:=by
   refine Classical.byContradiction fun hx => ?_
   rw [List.drop_of_length_le (by omega)] at hd
   cases hd
  rw [List.drop_eq_getElem_cons hj] at hd
  obtain ⟨h1,h2⟩:=List.cons.inj hd
  have he:Y.getD j .any = e:=by rw [List.getD_eq_getElem?_getD,List.getElem?_eq_getElem hj]; exact h1
  have hh:=h e (.head _)
  rw [List.map_cons]
  unfold mkX
  rw [he,mkE_eq hh.1 rfl hh.2,mkX_eq X Y (j + 1) h2 fun d hd => h d (.tail _ hd)]
theorem lawW4 (f g:Bool) (L nm:List PV) (id:Int) (h:okN nm = true):Hx.Enters Try.prog 4 /\ PCall Try.prog 4 [.lst f 3 L,.lst g 5 nm,iv id] (bv true):=by
 have hC:okC (madeN L nm) = true:=by unfold okC; rw [madeN_okW,madeN_okB]; rfl
 have h6:=okC_len hC
 have hS:okSW (madeN L nm) = true:=by unfold okSW; rw [madeN_okB,decide_eq_true (by omega)]; rfl
 cases hc:canW (madeN L nm) (Int.tmod id 7) == 0 with
 | false =>
  refine runP_sound okTWe (n:=100) ?_
  rw [qOwE,h,hC,hc,show (canW (madeN L nm) (Int.tmod id 7) != 0) = true by unfold bne; rw [hc]; rfl]
  rfl
 | true =>
  have hf:¬ fiW (madeN L nm) (Int.tmod id 7) 0 (madeN L nm).length < 0:=fun hx => by
   unfold canW at hc
   rw [decide_eq_true hx] at hc
   cases hc
  obtain ⟨k0,k1⟩:0 <= fiW (madeN L nm) (Int.tmod id 7) 0 (madeN L nm).length /\ fiW (madeN L nm) (Int.tmod id 7) 0 (madeN L nm).length < ((madeN L nm).length:Int):=by
   rcases fiW_range (madeN L nm) (Int.tmod id 7) (madeN L nm).length 0 (Int.le_refl _) with h | ⟨ha,hb,_⟩
   ·exact absurd h hf
   ·exact ⟨ha,by omega⟩
  generalize hX:(madeN L nm).eraseIdx (fiW (madeN L nm) (Int.tmod id 7) 0 (madeN L nm).length).toNat = X
  have hsub:∀ e ∈ X,e ∈ madeN L nm:=fun e he => by rw [<- hX] at he; exact List.mem_of_mem_eraseIdx he
  have hlen:X.length <= 5:=by
   rw [<- hX,List.length_eraseIdx_of_lt (by omega)]; omega
  have hm:=mkX_eq X X 0 (List.drop_zero) fun e he => ⟨madeN_form L nm e (hsub e he),madeN_pts L nm e (hsub e he)⟩
  have hq:=qow_all (X.map fun e => (wL e).length) (by rw [List.length_map]; exact hlen) (fun b hb => by
   obtain ⟨e,he,rfl⟩:=List.mem_map.1 hb
   exact madeN_pts L nm e (hsub e he))
  refine runP_sound (okTWx (X.map fun e => (wL e).length)) (n:=200) ?_
  rw [hq f L g nm id,h,hC,hc,show bigL (madeN L nm) = true from decide_eq_true (by omega),sameR_self,hS,sameWs_self,
   show okX (X.map fun e => (wL e).length) (madeN L nm) (fiW (madeN L nm) (Int.tmod id 7) 0 (madeN L nm).length) = true by
    unfold okX
    simp only [Bool.and_eq_true,decide_eq_true_eq,same_iff]
    exact ⟨h6,k0,k1,by rw [hX]; exact hm.symm⟩]
  rfl
end Go.Hn
