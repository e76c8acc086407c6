/- Thin: plain law of breaks: a connection breaks exactly if two other ways were connected and are so no more. -/
import Derived.Test.YtliaeiggcleoaaaGreatPart11
namespace Go.Hn
open Go.Hx Go.Hg Go.Proofs
theorem mgI_put {A:List (PV × PV)} (hA:kIv A) (a v b:Int):mgI (mput A (iv a) (iv v)) b = bif b == a then v else mgI A b:=by
 unfold mgI
 rw [mgI_get hA]
 cases b == a <;> rfl
theorem brk_iff {a:Int} {D E:List (PV × PV)}:∀ (n:Nat) (i:Int) {A:List (PV × PV)},kIv A ->
  (brk a D E i n A = false ↔ (∀ j,i <= j -> j < i + n -> j ≠ a -> mhas A (iv (mgI D j)) = true -> mgI A (mgI D j) = mgI E (koI j a)) /\
   ∀ j k,i <= j -> j < i + n -> j ≠ a -> i <= k -> k < i + n -> k ≠ a -> mgI D j = mgI D k -> mgI E (koI j a) = mgI E (koI k a))
 | 0,i,A,_ => ⟨fun _ => ⟨fun j h1 h2 => by omega,fun j k h1 h2 => by omega⟩,fun _ => rfl⟩
 | n + 1,i,A,hA => by
  unfold brk
  by_cases e:i = a
  ·rw [beq_iff_eq.2 e,cond_true,brk_iff n (i + 1) hA]
   constructor
   ·rintro ⟨h1,h2⟩
    exact ⟨fun j g1 g2 g3 => h1 j (by omega) (by omega) g3,fun j k g1 g2 g3 g4 g5 g6 => h2 j k (by omega) (by omega) g3 (by omega) (by omega) g6⟩
   ·rintro ⟨h1,h2⟩
    exact ⟨fun j g1 g2 g3 => h1 j (by omega) (by omega) g3,fun j k g1 g2 g3 g4 g5 g6 => h2 j k (by omega) (by omega) g3 (by omega) (by omega) g6⟩
  ·rw [beq_eq_false_iff_ne.2 e,cond_false,Bool.or_eq_false_iff,brk_iff n (i + 1) (kIv_put hA)]
   simp only [mhI_put hA,mgI_put hA,Bool.and_eq_false_iff,bne_eq_false_iff_eq]
   constructor
   ·rintro ⟨h0,h1,h2⟩
    have key:∀ j,i + 1 <= j -> j < i + 1 + n -> j ≠ a -> mgI D j = mgI D i -> mgI E (koI j a) = mgI E (koI i a):=fun j g1 g2 g3 g4 => by
     have:=h1 j g1 g2 g3 (by rw [beq_iff_eq.2 g4]; rfl)
     rw [beq_iff_eq.2 g4,cond_true] at this
     exact this.symm
    refine ⟨fun j g1 g2 g3 g4 => ?_,fun j k g1 g2 g3 g4 g5 g6 g7 => ?_⟩
    ·by_cases ej:j = i
     ·subst ej
      rcases h0 with h0 | h0
      ·rw [h0] at g4; cases g4
      ·exact h0
     ·by_cases ed:mgI D j = mgI D i
      ·rw [key j (by omega) (by omega) g3 ed,ed]
       rw [ed] at g4
       rcases h0 with h0 | h0
       ·rw [h0] at g4; cases g4
       ·exact h0
      ·have:=h1 j (by omega) (by omega) g3 (by rw [g4,Bool.or_true])
       rw [beq_eq_false_iff_ne.2 ed,cond_false] at this
       exact this
    ·by_cases ej:j = i
     ·by_cases ek:k = i
      ·rw [ej,ek]
      ·rw [ej]; exact (key k (by omega) (by omega) g6 (by rw [<- g7,ej])).symm
     ·by_cases ek:k = i
      ·rw [ek]; exact key j (by omega) (by omega) g3 (by rw [g7,ek])
      ·exact h2 j k (by omega) (by omega) g3 (by omega) (by omega) g6 g7
   ·rintro ⟨h1,h2⟩
    refine ⟨?_,fun j g1 g2 g3 g4 => ?_,fun j k g1 g2 g3 g4 g5 g6 g7 => h2 j k (by omega) (by omega) g3 (by omega) (by omega) g6 g7⟩
    ·cases hm:mhas A (iv (mgI D i)) with
     | false => exact .inl rfl
     | true => exact .inr (h1 i (Int.le_refl _) (by omega) e hm)
    ·by_cases ed:mgI D j = mgI D i
     ·rw [beq_iff_eq.2 ed,cond_true]
      exact h2 i j (Int.le_refl _) (by omega) e (by omega) (by omega) g3 ed.symm
     ·rw [beq_eq_false_iff_ne.2 ed,cond_false]
      rw [beq_eq_false_iff_ne.2 ed,Bool.false_or] at g4
      exact h1 j (by omega) (by omega) g3 g4
theorem erase_at {ws:List PV} {a j:Nat} (h6:ws.length <= 6) (ha:a < ws.length) (hj:j < ws.length) (h:j ≠ a):∃ (k:Nat) (hk:k < (ws.eraseIdx a).length),koI (j:Int) (a:Int) = k /\ (ws.eraseIdx a)[k] = ws[j]:=by
 have hl:(ws.eraseIdx a).length = ws.length - 1:=List.length_eraseIdx_of_lt ha
 unfold koI
 by_cases e:j < a
 ·refine ⟨j,by omega,by rw [decide_eq_false (by omega)]; rfl,?_⟩
  rw [List.getElem_eraseIdx,dif_pos e]
 ·refine ⟨j - 1,by omega,?_,?_⟩
  ·rw [decide_eq_true (by omega),cond_true,W_id (by omega) (by omega)]; omega
  ·rw [List.getElem_eraseIdx,dif_neg (by omega)]
   congr 1; omega
theorem erase_mem {ws:List PV} {a:Nat} (ha:a < ws.length) {e:PV} (h:e ∈ ws.eraseIdx a):∃ (j:Nat) (hj:j < ws.length),j ≠ a /\ ws[j] = e:=by
 obtain ⟨k,hk,rfl⟩:=List.mem_iff_getElem.1 h
 have hl:(ws.eraseIdx a).length = ws.length - 1:=List.length_eraseIdx_of_lt ha
 rw [List.getElem_eraseIdx]
 by_cases e:k < a
 ·exact ⟨k,by omega,by omega,by rw [dif_pos e]⟩
 ·exact ⟨k + 1,by omega,by omega,by rw [dif_neg e]⟩
theorem top_to {ws:List PV} {R S:S3 -> S3} (t:Top ws R) (u:Top ws S) (s:S3):S (R s) = S s:=
 (t.least (fun x => S x = S s) (fun e he => by rw [u.one e he]) s).2 rfl
theorem top_eq {ws:List PV} {R S:S3 -> S3} (t:Top ws R) (u:Top ws S) {x y:S3}:R x = R y ↔ S x = S y:=
 ⟨fun h => by rw [<- top_to t u x,h,top_to t u],fun h => by rw [<- top_to u t x,h,top_to u t]⟩
theorem brB_iff {ws:List PV} (h:okW ws = true) {a:Nat} (ha:a < ws.length) {R R':S3 -> S3} (t:Top ws R) (t':Top (ws.eraseIdx a) R'):
  brB ws (a:Int) = false ↔ ∀ e ∈ ws.eraseIdx a,∀ d ∈ ws.eraseIdx a,R (stA3 e) = R (stA3 d) -> R' (stA3 e) = R' (stA3 d):=by
 obtain ⟨R1,t1,m1⟩:=mg_ways h
 obtain ⟨R2,t2,m2⟩:=mg_ways (okW_erase h a)
 have h6:=(okW_iff h).1
 unfold brB
 rw [Int.toNat_natCast,brk_iff _ _ kIv_nil]
 constructor
 ·rintro ⟨_,h2⟩ e he d hd hR
  obtain ⟨j,hj,nj,rfl⟩:=erase_mem ha he
  obtain ⟨k,hk,nk,rfl⟩:=erase_mem ha hd
  obtain ⟨j',hj',ej,fj⟩:=erase_at h6 ha hj nj
  obtain ⟨k',hk',ek,fk⟩:=erase_at h6 ha hk nk
  have:=h2 (j:Int) (k:Int) (by omega) (by omega) (by omega) (by omega) (by omega) (by omega) ((m1 j k hj hk).2 ((top_eq t t1).1 hR))
  rw [ej,ek] at this
  have:=(m2 j' k' hj' hk').1 this
  rw [fj,fk] at this
  exact (top_eq t2 t').1 this
 ·intro hall
  refine ⟨fun j _ _ _ hm => (by cases hm),fun j k g1 g2 g3 g4 g5 g6 g7 => ?_⟩
  obtain ⟨j,rfl⟩:=Int.eq_ofNat_of_zero_le g1
  obtain ⟨k,rfl⟩:=Int.eq_ofNat_of_zero_le g4
  have hj:j < ws.length:=by omega
  have hk:k < ws.length:=by omega
  obtain ⟨j',hj',ej,fj⟩:=erase_at h6 ha hj (by omega)
  obtain ⟨k',hk',ek,fk⟩:=erase_at h6 ha hk (by omega)
  have hR:=(top_eq t1 t).1 ((m1 j k hj hk).1 g7)
  have hx:=hall ws[j] (by rw [<- fj]; exact List.getElem_mem _) ws[k] (by rw [<- fk]; exact List.getElem_mem _) hR
  show mgI _ (koI (j:Int) (a:Int)) = mgI _ (koI (k:Int) (a:Int))
  rw [ej,ek]
  refine (m2 j' k' hj' hk').2 ((top_eq t' t2).1 ?_)
  rw [fj,fk]
  exact hx
end Go.Hn
/- Thin: plain law of Can: what its parts come to, by membership. -/
namespace Go.Hn
open Go.Hx Go.Hg Go.Proofs
theorem gdk {ws:List PV} {k:Nat} (h:k < ws.length):ws.getD ((k:Int)).toNat .any = ws[k]:=by
 rw [Int.toNat_natCast,List.getD_eq_getElem?_getD,List.getElem?_eq_getElem h]; rfl
theorem bdr_iff {ws:List PV} {w:PV}:∀ (n i:Nat) (b:Bool),i + n = ws.length -> (bdr ws w (i:Int) n b = true ↔ b = true \/ ∃ e ∈ ws.drop i,wDs e ≠ wDs w /\ jnW e w = true)
 | 0,i,b,h => by
  rw [List.drop_of_length_le (by omega)]
  exact ⟨.inl,fun h => by rcases h with h | ⟨_,h,_⟩; exact h; cases h⟩
 | n + 1,i,b,h => by
  have hi:i < ws.length:=by omega
  unfold bdr
  rw [show (i:Int) + 1 = ((i + 1:Nat):Int) by omega,bdr_iff n (i + 1) _ (by omega),List.drop_eq_getElem_cons hi]
  unfold odB
  rw [gdk hi]
  by_cases e:wDs ws[i] = wDs w
  ·rw [show (wDs ws[i] != wDs w) = false by rw [bne_eq_false_iff_eq]; exact e,cond_false]
   constructor
   ·rintro (h1 | ⟨d,hd,h1⟩)
    ·exact .inl h1
    ·exact .inr ⟨d,.tail _ hd,h1⟩
   ·rintro (h1 | ⟨d,hd,h1,h2⟩)
    ·exact .inl h1
    ·rcases List.mem_cons.1 hd with rfl | hd
     ·exact absurd e h1
     ·exact .inr ⟨d,hd,h1,h2⟩
  ·rw [show (wDs ws[i] != wDs w) = true by rw [bne_iff_ne]; exact e,cond_true,Bool.or_eq_true]
   constructor
   ·rintro ((h1 | h1) | ⟨d,hd,h1⟩)
    ·exact .inl h1
    ·exact .inr ⟨_,.head _,e,h1⟩
    ·exact .inr ⟨d,.tail _ hd,h1⟩
   ·rintro (h1 | ⟨d,hd,h1,h2⟩)
    ·exact .inl (.inl h1)
    ·rcases List.mem_cons.1 hd with rfl | hd
     ·exact .inl (.inr h2)
     ·exact .inr ⟨d,hd,h1,h2⟩
def ownB (w e:PV):Bool:=wDs e == wDs w
theorem odB_at {ws:List PV} {w:PV} {i:Nat} (hi:i < ws.length):odB ws w (i:Int) = !ownB w ws[i]:=by
 unfold odB ownB; rw [gdk hi]; rfl
theorem owl_eq {ws:List PV} {w:PV}:∀ (n i:Nat),i + n = ws.length -> owl ws w (i:Int) n = ((ws.drop i).filter (ownB w)).map nrE
 | 0,i,h => by rw [List.drop_of_length_le (by omega)]; rfl
 | n + 1,i,h => by
  have hi:i < ws.length:=by omega
  unfold owl
  rw [show (i:Int) + 1 = ((i + 1:Nat):Int) by omega,owl_eq n (i + 1) (by omega),List.drop_eq_getElem_cons hi,odB_at hi,gdk hi,List.filter_cons]
  cases ownB w ws[i] <;> rfl
theorem plc_eq {ws:List PV} {w:PV} {a:Nat} (ho:∀ h:a < ws.length,ownB w ws[a] = true):∀ (n i:Nat) (c pl:Int),i + n = ws.length -> a < ws.length ->
  plc ws w (a:Int) (i:Int) n c pl = if i <= a then c + (((ws.drop i).take (a - i)).countP (ownB w):Nat) else pl
 | 0,i,c,pl,h,ha => by rw [if_neg (by omega)]; rfl
 | n + 1,i,c,pl,h,ha => by
  have hi:i < ws.length:=by omega
  unfold plc
  rw [show (i:Int) + 1 = ((i + 1:Nat):Int) by omega,plc_eq ho n (i + 1) _ _ (by omega) ha,plc_eq ho n (i + 1) _ _ (by omega) ha,odB_at hi,List.drop_eq_getElem_cons hi]
  by_cases e:i = a
  ·subst e
   rw [ho ha,if_neg (by omega),if_neg (by omega),if_pos (Nat.le_refl _),Nat.sub_self,show ((i:Int) == (i:Int)) = true from beq_self_eq_true _]
   simp
  ·rw [show ((i:Int) == (a:Int)) = false by rw [beq_eq_false_iff_ne]; omega]
   by_cases hl:i <= a
   ·rw [if_pos hl,if_pos (by omega),if_pos (by omega),show a - i = (a - (i + 1)) + 1 by omega,List.take_succ_cons,List.countP_cons]
    cases ownB w ws[i] <;> simp
    omega
   ·rw [if_neg hl,if_neg (by omega),if_neg (by omega)]
    cases ownB w ws[i] <;> rfl
theorem filter_erase {α:Type} {p:α -> Bool}:∀ {l:List α} {a:Nat} (h:a < l.length),p l[a] = true ->
  (l.filter p).eraseIdx ((l.take a).countP p) = (l.eraseIdx a).filter p /\ (l.filter p)[(l.take a).countP p]? = some l[a]
 | [],_,h,_ => by simp at h
 | x :: l,0,_,hp => by
  have hp:p x = true:=hp
  simp [hp]
 | x :: l,a + 1,h,hp => by
  obtain ⟨e1,e2⟩:=filter_erase (p:=p) (l:=l) (a:=a) (by simpa using h) hp
  rw [List.take_succ_cons,List.countP_cons,List.eraseIdx_cons_succ,List.filter_cons,List.filter_cons]
  cases hx:p x with
  | true =>
   simp only [if_true,List.eraseIdx_cons_succ,List.getElem?_cons_succ,List.getElem_cons_succ]
   exact ⟨by rw [e1],e2⟩
  | false =>
   simp only [Bool.false_eq_true,if_false,Nat.add_zero,List.getElem_cons_succ]
   exact ⟨e1,e2⟩
theorem map_erase {α β:Type} (f:α -> β):∀ (l:List α) (k:Nat),(l.map f).eraseIdx k = (l.eraseIdx k).map f
 | [],_ => by simp
 | _ :: _,0 => rfl
 | x :: l,k + 1 => by simp [map_erase f l k]
theorem own_at {ws:List PV} {a:Nat} (ha:a < ws.length):∃ k:Nat,plc ws (nrE ws[a]) (a:Int) 0 ws.length 0 0 = k /\ ∃ hk:k < (owl ws (nrE ws[a]) 0 ws.length).length,
  (owl ws (nrE ws[a]) 0 ws.length)[k] = nrE ws[a] /\ (owl ws (nrE ws[a]) 0 ws.length).eraseIdx k = ((ws.eraseIdx a).filter (ownB ws[a])).map nrE:=by
 have ho:ownB (nrE ws[a]) ws[a] = true:=by unfold ownB; exact beq_self_eq_true _
 have h1:=plc_eq (ws:=ws) (w:=nrE ws[a]) (a:=a) (fun _ => ho) ws.length 0 0 0 (by omega) ha
 have h2:=owl_eq (ws:=ws) (w:=nrE ws[a]) ws.length 0 (by omega)
 rw [if_pos (Nat.zero_le _),List.drop_zero,Nat.sub_zero,Int.zero_add] at h1
 rw [List.drop_zero] at h2
 obtain ⟨e1,e2⟩:=filter_erase (p:=ownB (nrE ws[a])) ha ho
 refine ⟨_,h1,?_⟩
 have h2':owl ws (nrE ws[a]) 0 ws.length = (ws.filter (ownB (nrE ws[a]))).map nrE:=h2
 rw [h2']
 obtain ⟨hk,e3⟩:=List.getElem?_eq_some_iff.1 e2
 refine ⟨by rw [List.length_map]; exact hk,by rw [List.getElem_map,e3],?_⟩
 rw [map_erase,e1]
 rfl
end Go.Hn
/- Thin: plain law of titles: how many ways have one; Can by membership. -/
namespace Go.Hn
open Go.Hx Go.Hg Go.Proofs
def mup:List (PV × PV) -> PV -> PV -> List (PV × PV)
 | [],k,v => [(k,v)]
 | (a,w) :: D,k,v => bif keq k a then (a,v) :: D else (a,w) :: mup D k v
theorem mup_eq (z v:PV) (k:PV):∀ (D:List (PV × PV)),mset (mins z D k) (midxN D k) v = mup D k v
 | [] => rfl
 | (a,w) :: D => by
  have ih:=mup_eq z v k D
  unfold mset mins midxN at ih ⊢
  unfold mup mhas midx
  cases hk:keq k a with
  | true => simp
  | false =>
   rw [Bool.false_or,cond_false,cond_false,<- ih]
   have e:((midx D k).map (· + 1)).getD ((a,w) :: D).length = (midx D k).getD D.length + 1:=by cases midx D k <;> rfl
   rw [e]
   cases mhas D k <;> simp
abbrev tk (d:Int) (s:ByteArray):PV:=.agg [iv d,.val (.string s)]
theorem keq_tk (a x:Int) (b y:ByteArray):keq (tk a b) (tk x y) = ((a == x) && (b.toList == y.toList)):=by
 show ((a == x) && ((b.toList == y.toList) && true)) = _
 rw [Bool.and_true]
theorem keq_tk_iff (a x:Int) (b y:ByteArray):keq (tk a b) (tk x y) = true ↔ a = x /\ b.toList = y.toList:=by
 rw [keq_tk,Bool.and_eq_true,beq_iff_eq,beq_iff_eq]
def kT (D:List (PV × PV)):Prop:=∀ p ∈ D,∃ d s,p.1 = tk d s
theorem kT_mup {d:Int} {s:ByteArray} {v:PV}:∀ {D:List (PV × PV)},kT D -> kT (mup D (tk d s) v)
 | [],_ => fun p h => by
  rcases List.mem_cons.1 h with rfl | h
  ·exact ⟨d,s,rfl⟩
  ·cases h
 | (a,w) :: D,hk => fun p h => by
  unfold mup at h
  cases e:keq (tk d s) a with
  | true =>
   rw [e,cond_true] at h
   rcases List.mem_cons.1 h with rfl | h
   ·exact hk (a,w) (.head _)
   ·exact hk p (.tail _ h)
  | false =>
   rw [e,cond_false] at h
   rcases List.mem_cons.1 h with rfl | h
   ·exact hk _ (.head _)
   ·exact kT_mup (fun q hq => hk q (.tail _ hq)) p h
theorem mget_mup {d x:Int} {s y:ByteArray} {v z:PV}:∀ {D:List (PV × PV)},kT D -> mget z (mup D (tk d s) v) (tk x y) = bif keq (tk x y) (tk d s) then v else mget z D (tk x y)
 | [],_ => rfl
 | (a,w) :: D,hk => by
  obtain ⟨p,q,hpq⟩:=hk _ (.head _)
  have hpq:a = tk p q:=hpq
  subst hpq
  have ih:=mget_mup (d:=d) (x:=x) (s:=s) (y:=y) (v:=v) (z:=z) (fun q hq => hk q (.tail _ hq):kT D)
  unfold mup
  cases e:keq (tk d s) (tk p q) with
  | true =>
   obtain ⟨e1,e2⟩:=(keq_tk_iff ..).1 e
   have:keq (tk x y) (tk p q) = keq (tk x y) (tk d s):=by rw [keq_tk,keq_tk,e1,e2]
   rw [cond_true]
   simp only [mget,this]
   cases keq (tk x y) (tk d s) <;> rfl
  | false =>
   rw [cond_false]
   simp only [mget,ih]
   cases e1:keq (tk x y) (tk p q) with
   | false => rfl
   | true =>
    cases e2:keq (tk x y) (tk d s) with
    | false => rfl
    | true =>
     obtain ⟨g1,g2⟩:=(keq_tk_iff ..).1 e1
     obtain ⟨g3,g4⟩:=(keq_tk_iff ..).1 e2
     rw [(keq_tk_iff ..).2 ⟨g3.symm.trans g1,g4.symm.trans g2⟩] at e
     cases e
def tget (D:List (PV × PV)) (k:PV):Int:=((mget (iv 0) D k).cellAt 0).getI
def ttQ (k x:PV):Bool:=keq k (ttE x)
theorem ttN_get {D:List (PV × PV)} (hk:kT D) (d:Int) (s:ByteArray) (x:PV):kT (ttN D (ttE x)) /\ tget (ttN D (ttE x)) (tk d s) = bif ttQ (tk d s) x then W (tget D (ttE x) + 1) else tget D (tk d s):=by
 unfold ttN
 rw [Int.toNat_natCast,mup_eq]
 refine ⟨kT_mup hk,?_⟩
 unfold tget
 rw [mget_mup hk]
 unfold ttQ
 cases keq (tk d s) (ttE x) <;> rfl
theorem tget_keq {D:List (PV × PV)} (hk:kT D) {d x:Int} {s y:ByteArray} (h:keq (tk d s) (tk x y) = true):mget (iv 0) D (tk d s) = mget (iv 0) D (tk x y):=by
 obtain ⟨h1,h2⟩:=(keq_tk_iff ..).1 h
 induction D with
 | nil => rfl
 | cons p D ih =>
  obtain ⟨a,w⟩:=p
  obtain ⟨u,v,huv⟩:=hk _ (.head _)
  have huv:a = tk u v:=huv
  subst huv
  simp only [mget]
  rw [ih (fun q hq => hk q (.tail _ hq)),keq_tk,keq_tk,h1,h2]
theorem ttl_get {ws:List PV} (h6:ws.length <= 1000) (d:Int) (s:ByteArray):∀ (n k:Nat) {D:List (PV × PV)},kT D -> k + n = ws.length -> (∀ d s,0 <= tget D (tk d s) /\ tget D (tk d s) <= k) ->
  tget (ttl ws (k:Int) n D) (tk d s) = tget D (tk d s) + ((ws.drop k).countP (ttQ (tk d s)):Int)
 | 0,k,D,_,h,_ => by rw [List.drop_of_length_le (by omega)]; simp [ttl]
 | n + 1,k,D,hk,h,hb => by
  have hlt:k < ws.length:=by omega
  unfold ttl
  rw [gdk hlt,show (k:Int) + 1 = ((k + 1:Nat):Int) by omega]
  have hb':∀ d s,0 <= tget (ttN D (ttE ws[k])) (tk d s) /\ tget (ttN D (ttE ws[k])) (tk d s) <= ((k + 1:Nat):Int):=fun d s => by
   rw [(ttN_get hk d s ws[k]).2]
   have h1:=hb d s
   have h2:0 <= tget D (ttE ws[k]) /\ tget D (ttE ws[k]) <= k:=hb (wDs ws[k]) (wNm ws[k])
   cases ttQ (tk d s) ws[k] with
   | true => rw [cond_true,W_id (by omega) (by omega)]; omega
   | false => rw [cond_false]; omega
  rw [ttl_get h6 d s n (k + 1) (ttN_get hk d s ws[k]).1 (by omega) hb',(ttN_get hk d s ws[k]).2,List.drop_eq_getElem_cons hlt,List.countP_cons]
  have h2:0 <= tget D (ttE ws[k]) /\ tget D (ttE ws[k]) <= k:=hb (wDs ws[k]) (wNm ws[k])
  cases hq:ttQ (tk d s) ws[k] with
  | true =>
   rw [cond_true,W_id (by omega) (by omega)]
   have:tget D (ttE ws[k]) = tget D (tk d s):=by unfold tget; rw [tget_keq hk (show keq (tk d s) (tk (wDs ws[k]) (wNm ws[k])) = true from hq)]
   rw [this]
   simp
   omega
  | false => simp
theorem ttC_eq {ws:List PV} (h6:ws.length <= 1000) (e:PV):ttC ws e = (ws.countP (ttQ (ttE e)):Int):=by
 have:=ttl_get h6 (wDs e) (wNm e) ws.length 0 (D:=[]) (fun p h => by cases h) (by omega) (fun d s => ⟨Int.le_refl _,Int.le_refl _⟩)
 rw [List.drop_zero,show tget [] (tk (wDs e) (wNm e)) = 0 from rfl] at this
 unfold ttC
 rw [show ((ws.length:Int) - 0).toNat = ws.length by omega]
 exact this.trans (Int.zero_add _)
theorem ttQ_iff (x y:PV):ttQ (ttE x) y = true ↔ wDs x = wDs y /\ (wNm x).toList = (wNm y).toList:=keq_tk_iff ..
theorem ttC_lt {ws:List PV} (h6:ws.length <= 1000) {a:Nat} (ha:a < ws.length):ttC ws ws[a] < 2 ↔ ∀ e ∈ ws.eraseIdx a,¬(wDs ws[a] = wDs e /\ (wNm ws[a]).toList = (wNm e).toList):=by
 rw [ttC_eq h6]
 have hs:ws.countP (ttQ (ttE ws[a])) = (ws.eraseIdx a).countP (ttQ (ttE ws[a])) + 1:=by
  have h1:ws = ws.take a ++ (ws[a] :: ws.drop (a + 1)):=by rw [<- List.drop_eq_getElem_cons ha,List.take_append_drop]
  have h2:ttQ (ttE ws[a]) ws[a] = true:=(ttQ_iff ..).2 ⟨rfl,rfl⟩
  generalize hw:ws[a] = w at h1 h2 ⊢
  rw [List.eraseIdx_eq_take_drop_succ,List.countP_append]
  conv => lhs; rw [h1]
  rw [List.countP_append,List.countP_cons,h2]
  simp
  omega
 rw [hs]
 constructor
 ·intro h e he hq
  have:0 < (ws.eraseIdx a).countP (ttQ (ttE ws[a])):=List.countP_pos_iff.2 ⟨e,he,(ttQ_iff ..).2 hq⟩
  omega
 ·intro h
  have:(ws.eraseIdx a).countP (ttQ (ttE ws[a])) = 0:=List.countP_eq_zero.2 fun e he hq => h e he ((ttQ_iff ..).1 hq)
  omega
theorem ids_idx {ws:List PV} (hI:(ws.map wI).Nodup) {i j:Nat} (hi:i < ws.length) (hj:j < ws.length) (h:wI ws[i] = wI ws[j]):i = j:=by
 have:=(List.getElem_inj (xs:=ws.map wI) (i:=i) (j:=j) (h₀:=by simpa using hi) (h₁:=by simpa using hj) hI).1 (by rw [List.getElem_map,List.getElem_map]; exact h)
 exact this
theorem fiW_at {ws:List PV} (hI:(ws.map wI).Nodup) {a:Nat} (ha:a < ws.length):∀ (n k:Nat),k + n = ws.length -> k <= a -> fiW ws (wI ws[a]) (k:Int) n = (a:Int)
 | 0,k,h,h2 => by omega
 | n + 1,k,h,h2 => by
  have hlt:k < ws.length:=by omega
  unfold fiW
  have hn:wN ws (k:Int) = wI ws[k]:=by unfold wN; rw [gdk hlt]
  rw [hn]
  by_cases e:k = a
  ·subst e; rw [beq_self_eq_true,cond_true]
  ·have:wI ws[k] ≠ wI ws[a]:=fun hx => e (ids_idx hI hlt ha hx)
   rw [beq_eq_false_iff_ne.2 this,cond_false,show (k:Int) + 1 = ((k + 1:Nat):Int) by omega]
   exact fiW_at hI ha n (k + 1) (by omega) (by omega)
theorem can_iff {ws:List PV} (h:okW ws = true) (hI:(ws.map wI).Nodup) {a:Nat} (ha:a < ws.length) (hd:1 <= wDs ws[a]):∃ B K:Bool,canW ws (wI ws[a]) = (bif B then 25 else bif brB (owl ws (nrE ws[a]) 0 ws.length) (plc ws (nrE ws[a]) (a:Int) 0 ws.length 0 0) then 23 else bif K then 24 else 0) /\
  (B = true ↔ ∃ e ∈ ws,wDs e ≠ wDs ws[a] /\ jnW e ws[a] = true) /\
  (K = true ↔ (wNm ws[a]).toList ≠ (ByteArray.mk #[]).toList /\ ∀ e ∈ ws.eraseIdx a,¬(wDs ws[a] = wDs e /\ (wNm ws[a]).toList = (wNm e).toList)):=by
 have h6:=(okW_iff h).1
 refine ⟨bdr ws (nrE ws[a]) 0 ws.length false,!((wNm ws[a]).toList == (ByteArray.mk #[]).toList) && decide (ttC ws ws[a] < 2),?_,?_,?_⟩
 ·have hf:=fiW_at hI ha ws.length 0 (by omega) (Nat.zero_le _)
  rw [show ((0:Nat):Int) = 0 from rfl] at hf
  unfold canW
  rw [hf,decide_eq_false (by omega),cond_false,gdk ha]
  unfold canE
  rw [show decide (wDs ws[a] < 1) = false from decide_eq_false (by omega)]
 ·have:=bdr_iff (ws:=ws) (w:=nrE ws[a]) ws.length 0 false (by omega)
  rw [List.drop_zero] at this
  refine this.trans ⟨fun hx => ?_,fun hx => .inr hx⟩
  rcases hx with hx | hx
  ·cases hx
  ·exact hx
 ·rw [Bool.and_eq_true,Bool.not_eq_true',beq_eq_false_iff_ne,decide_eq_true_eq,ttC_lt (by omega) ha]
end Go.Hn
/- Thin: plain law: the order of ways plays no part in Can. -/
namespace Go.Hn
open Go.Hx Go.Hg Go.Proofs
theorem erase_ids {ws:List PV} (hI:(ws.map wI).Nodup) {a:Nat} (ha:a < ws.length) (e:PV):e ∈ ws.eraseIdx a ↔ e ∈ ws /\ wI e ≠ wI ws[a]:=by
 constructor
 ·intro h
  obtain ⟨j,hj,h1,rfl⟩:=erase_mem ha h
  exact ⟨List.getElem_mem hj,fun hx => h1 (ids_idx hI hj ha hx)⟩
 ·rintro ⟨h,h2⟩
  obtain ⟨j,hj,rfl⟩:=List.mem_iff_getElem.1 h
  have:j ≠ a:=fun hx => h2 (by subst hx; rfl)
  rw [List.mem_eraseIdx_iff_getElem]
  exact ⟨j,hj,this,rfl⟩
end Go.Hn
/- Thin: plain law of a step: what stays when a way that can go goes. -/
namespace Go.Hn
open Go.Hx Go.Hg Go.Proofs
theorem memN_ivs {l:List Int} {x:Int}:∀ (n k:Nat),k + n = l.length -> (memN (ivs l) x (k:Int) n = true ↔ x ∈ l.drop k)
 | 0,k,h => by rw [List.drop_of_length_le (by omega)]; exact ⟨fun h => (by cases h),fun h => (by cases h)⟩
 | n + 1,k,h => by
  have hk:k < l.length:=by omega
  unfold memN
  rw [nI_ivs l hk,show (k:Int) + 1 = ((k + 1:Nat):Int) by omega,Bool.or_eq_true,memN_ivs n (k + 1) (by omega),List.drop_eq_getElem_cons hk,List.mem_cons,beq_iff_eq]
  exact ⟨fun h => h.imp (fun h => h.symm) id,fun h => h.imp (fun h => h.symm) id⟩
theorem gpF_at {G:List PV} {LL:List (List Int)} (h:G.map eL = LL.map ivs) (hnd:LL.flatten.Nodup) {x:Int} {j:Nat} (hj:j < LL.length) (hm:x ∈ LL[j]):∀ (n i:Nat),i + n = LL.length -> i <= j -> gpF G x (i:Int) n = (j:Int)
 | 0,i,h1,h2 => by omega
 | n + 1,i,h1,h2 => by
  have hi:i < LL.length:=by omega
  have hg:gEl G (i:Int) = ivs LL[i]:=by unfold gEl; rw [Int.toNat_natCast]; exact gAt h hi
  unfold gpF
  rw [hg,show (ivs LL[i]).length = LL[i].length from List.length_map ..]
  have hx:=memN_ivs (l:=LL[i]) (x:=x) LL[i].length 0 (by omega)
  rw [List.drop_zero] at hx
  by_cases e:i = j
  ·subst e
   rw [show memN (ivs LL[i]) x 0 LL[i].length = true from hx.2 hm]; rfl
  ·have:memN (ivs LL[i]) x 0 LL[i].length = false:=by
    rw [<- Bool.not_eq_true]
    intro h3
    exact e (flat_uniq hnd hi hj (hx.1 h3) hm)
   rw [this,cond_false,show (i:Int) + 1 = ((i + 1:Nat):Int) by omega]
   exact gpF_at h hnd hj hm n (i + 1) (by omega) (by omega)
theorem gp_ways {ws:List PV} (h:okW ws = true) (hI:(ws.map wI).Nodup):∃ R:S3 -> S3,Top ws R /\ (∀ e ∈ ws,0 <= gpF (grpL ws) (wI e) 0 (grpL ws).length) /\
  ∀ e ∈ ws,∀ d ∈ ws,(gpF (grpL ws) (wI e) 0 (grpL ws).length = gpF (grpL ws) (wI d) 0 (grpL ws).length ↔ R (stA3 e) = R (stA3 d)):=by
 obtain ⟨R,A,t,hA,hm,_,_,_,_,hg⟩:=grp_facts h
 have hp:=(sortP_gr (gls R A ws)).2.1
 have hnd:(srtG (gls R A ws)).flatten.Nodup:=(hp.flatten.nodup_iff).2 (gls_nodup hI hA)
 have hlen:(grpL ws).length = (srtG (gls R A ws)).length:=by have:=congrArg List.length hg; simpa using this
 have at1:∀ e ∈ ws,∃ (j:Nat) (hj:j < (srtG (gls R A ws)).length),gpF (grpL ws) (wI e) 0 (grpL ws).length = j /\ (srtG (gls R A ws))[j] = srtN (idsL R ws (R (stA3 e))):=fun e he => by
  have hin:srtN (idsL R ws (R (stA3 e))) ∈ srtG (gls R A ws):=hp.mem_iff.2 (gls_mem.2 ⟨_,(hm _).2 ⟨_,he,rfl⟩,rfl⟩)
  obtain ⟨j,hj,e1⟩:=List.mem_iff_getElem.1 hin
  refine ⟨j,hj,?_,e1⟩
  have hmem:wI e ∈ (srtG (gls R A ws))[j]:=by rw [e1]; exact srt_mem.2 ⟨e,he,rfl,rfl⟩
  have:=gpF_at hg hnd hj hmem (srtG (gls R A ws)).length 0 (Nat.zero_add _) (Nat.zero_le _)
  rw [hlen]
  exact this
 refine ⟨R,t,fun e he => ?_,fun e he d hd => ?_⟩
 ·obtain ⟨j,_,e1,_⟩:=at1 e he
  rw [e1]; omega
 ·obtain ⟨j,hj,e1,e2⟩:=at1 e he
  obtain ⟨k,hk,e3,e4⟩:=at1 d hd
  rw [e1,e3]
  constructor
  ·intro hq
   have:j = k:=by omega
   subst this
   rw [e2] at e4
   have h1:wI e ∈ srtN (idsL R ws (R (stA3 e))):=srt_mem.2 ⟨e,he,rfl,rfl⟩
   rw [e4] at h1
   obtain ⟨c,hc,h2,h3⟩:=srt_mem.1 h1
   rw [ids_inj hI hc he h3] at h2
   exact h2
  ·intro hq
   rw [hq] at e2
   have:j = k:=by
    refine flat_uniq hnd hj hk (x:=wI e) ?_ ?_
    ·rw [e2,<- hq]; exact srt_mem.2 ⟨e,he,rfl,rfl⟩
    ·rw [e4,<- hq]; exact srt_mem.2 ⟨e,he,rfl,rfl⟩
   rw [this]
def okOne (e:PV):Prop:=1 <= wI e /\ chk (wL e) = 0 /\ rngB e = false
def okTwo (d e:PV):Prop:=wI d ≠ wI e /\ ¬(wLv d = wLv e /\ crx (wL d) (wL e) = true)
theorem anyI_iff {ws:List PV} {id:Int}:∀ (n k:Nat),k + n <= ws.length -> (anyI ws id (k:Int) n = true ↔ ∃ (j:Nat) (hj:j < ws.length),k <= j /\ j < k + n /\ wI ws[j] = id)
 | 0,k,_ => ⟨fun h => (by cases h),fun ⟨j,_,h1,h2,_⟩ => (by omega)⟩
 | n + 1,k,h => by
  have hk:k < ws.length:=by omega
  unfold anyI
  rw [show (k:Int) + 1 = ((k + 1:Nat):Int) by omega,Bool.or_eq_true,anyI_iff n (k + 1) (by omega)]
  have hw:wN ws (k:Int) = wI ws[k]:=by unfold wN; rw [gdk hk]
  rw [hw,beq_iff_eq]
  constructor
  ·rintro (h1 | ⟨j,hj,h1,h2,h3⟩)
   ·exact ⟨k,hk,Nat.le_refl _,by omega,h1⟩
   ·exact ⟨j,hj,by omega,by omega,h3⟩
  ·rintro ⟨j,hj,h1,h2,h3⟩
   by_cases e:j = k
   ·subst e; exact .inl h3
   ·exact .inr ⟨j,hj,by omega,by omega,h3⟩
theorem anyC_iff {ws:List PV} {lv:Int} {M:List PV}:∀ (n k:Nat),k + n <= ws.length -> (anyC ws lv M (k:Int) n = true ↔ ∃ (j:Nat) (hj:j < ws.length),k <= j /\ j < k + n /\ wLv ws[j] = lv /\ crx (wL ws[j]) M = true)
 | 0,k,_ => ⟨fun h => (by cases h),fun ⟨j,_,h1,h2,_⟩ => (by omega)⟩
 | n + 1,k,h => by
  have hk:k < ws.length:=by omega
  unfold anyC
  rw [show (k:Int) + 1 = ((k + 1:Nat):Int) by omega,Bool.or_eq_true,anyC_iff n (k + 1) (by omega),gdk hk,Bool.and_eq_true,beq_iff_eq]
  constructor
  ·rintro (⟨h1,h4⟩ | ⟨j,hj,h1,h2,h3⟩)
   ·exact ⟨k,hk,Nat.le_refl _,by omega,h1,h4⟩
   ·exact ⟨j,hj,by omega,by omega,h3⟩
  ·rintro ⟨j,hj,h1,h2,h3⟩
   by_cases e:j = k
   ·subst e; exact .inl h3
   ·exact .inr ⟨j,hj,by omega,by omega,h3⟩
theorem errW_iff {ws:List PV} {i:Nat} (hi:i < ws.length):errW ws (i:Int) = 0 ↔ okOne ws[i] /\ ∀ (j:Nat) (hj:j < i),okTwo (ws[j]'(by omega)) ws[i]:=by
 have hI:=anyI_iff (ws:=ws) (id:=wI ws[i]) i 0 (by omega)
 have hC:=anyC_iff (ws:=ws) (lv:=wLv ws[i]) (M:=wL ws[i]) i 0 (by omega)
 rw [show ((0:Nat):Int) = 0 from rfl] at hI hC
 have hw:wN ws (i:Int) = wI ws[i]:=by unfold wN; rw [gdk hi]
 unfold errW okOne
 rw [hw,gdk hi,Int.toNat_natCast]
 constructor
 ·intro h
  cases h1:decide (wI ws[i] < 1) with
  | true => rw [h1] at h; cases h
  | false =>
   rw [h1,cond_false] at h
   cases h2:anyI ws (wI ws[i]) 0 i with
   | true => rw [h2] at h; cases h
   | false =>
    rw [h2,cond_false] at h
    cases h3:chk (wL ws[i]) != 0 with
    | true => rw [h3,cond_true] at h; rw [h] at h3; cases h3
    | false =>
     rw [h3,cond_false] at h
     cases h4:rngB ws[i] with
     | true => rw [h4] at h; cases h
     | false =>
      rw [h4,cond_false] at h
      cases h5:anyC ws (wLv ws[i]) (wL ws[i]) 0 i with
      | true => rw [h5] at h; cases h
      | false =>
       refine ⟨⟨by have:=of_decide_eq_false h1; omega,bne_eq_false_iff_eq.1 h3,rfl⟩,fun j hj => ⟨fun hx => ?_,fun hx => ?_⟩⟩
       ·rw [hI.2 ⟨j,by omega,Nat.zero_le _,by omega,hx⟩] at h2; cases h2
       ·rw [hC.2 ⟨j,by omega,Nat.zero_le _,by omega,hx.1,hx.2⟩] at h5; cases h5
 ·rintro ⟨⟨h1,h2,h3⟩,h4⟩
  have e1:anyI ws (wI ws[i]) 0 i = false:=by
   rw [<- Bool.not_eq_true,hI]
   rintro ⟨j,hj,_,h5,h6⟩
   exact (h4 j (by omega)).1 h6
  have e2:anyC ws (wLv ws[i]) (wL ws[i]) 0 i = false:=by
   rw [<- Bool.not_eq_true,hC]
   rintro ⟨j,hj,_,h5,h6⟩
   exact (h4 j (by omega)).2 h6
  rw [decide_eq_false (by omega),e1,h2,h3,e2]; rfl
theorem errF_iff {ws:List PV}:∀ (n i:Nat),errF ws (i:Int) n = 0 ↔ ∀ j:Nat,i <= j -> j < i + n -> errW ws (j:Int) = 0
 | 0,i => ⟨fun _ j h1 h2 => by omega,fun _ => rfl⟩
 | n + 1,i => by
  refine ⟨errF_zero (n + 1) i,fun h => ?_⟩
  unfold errF
  rw [h i (Nat.le_refl _) (by omega),show (i:Int) + 1 = ((i + 1:Nat):Int) by omega]
  exact (errF_iff n (i + 1)).2 fun j h1 h2 => h j (by omega) (by omega)
theorem chkF_iff {ws:List PV} (hl:ws.length <= 80):chkF ws = 0 ↔ (∀ e ∈ ws,okOne e) /\ ws.Pairwise okTwo:=by
 unfold chkF
 rw [decide_eq_false (by omega),cond_false]
 refine (errF_iff ws.length 0).trans ?_
 rw [List.pairwise_iff_getElem]
 constructor
 ·intro h
  refine ⟨fun e he => ?_,fun i j hi hj hij => ?_⟩
  ·obtain ⟨i,hi,rfl⟩:=List.mem_iff_getElem.1 he
   exact ((errW_iff hi).1 (h i (Nat.zero_le _) (by omega))).1
  ·exact ((errW_iff hj).1 (h j (Nat.zero_le _) (by omega))).2 i hij
 ·rintro ⟨h1,h2⟩ j _ hj
  have hj':j < ws.length:=by omega
  exact (errW_iff hj').2 ⟨h1 _ (List.getElem_mem hj'),fun i hi => h2 i j (by omega) hj' hi⟩
theorem chkF_less {ws:List PV} (hl:ws.length <= 80) (h:chkF ws = 0) (a:Nat):chkF ((ws.eraseIdx a).map nrE) = 0:=by
 obtain ⟨h1,h2⟩:=(chkF_iff hl).1 h
 have hs:(ws.eraseIdx a).Sublist ws:=List.eraseIdx_sublist ..
 refine (chkF_iff (by rw [List.length_map]; exact Nat.le_trans hs.length_le hl)).2 ⟨fun e he => ?_,?_⟩
 ·obtain ⟨d,hd,rfl⟩:=List.mem_map.1 he
  exact h1 d (hs.subset hd)
 ·rw [List.pairwise_map]
  exact (h2.sublist hs).imp fun {a b} hab => hab
theorem top_map {ws:List PV} {R:S3 -> S3} (t:Top (ws.map nrE) R):Top ws R where
 one:=fun e he => t.one (nrE e) (List.mem_map_of_mem he)
 least:=fun f hf => t.least f fun e he => by
  obtain ⟨d,hd,rfl⟩:=List.mem_map.1 he
  exact hf d hd
theorem keep_conn {ws:List PV} (h:okW ws = true) {a:Nat} (ha:a < ws.length) (hb:brB (owl ws (nrE ws[a]) 0 ws.length) (plc ws (nrE ws[a]) (a:Int) 0 ws.length 0 0) = false)
  (hn:∀ e ∈ ws,wDs e ≠ wDs ws[a] -> jnW e ws[a] = false) {R R':S3 -> S3} (t:Top ws R) (t':Top (ws.eraseIdx a) R') {e d:PV} (he:e ∈ ws.eraseIdx a) (hd:d ∈ ws.eraseIdx a):R (stA3 e) = R (stA3 d) ↔ R' (stA3 e) = R' (stA3 d):=by
 obtain ⟨h6,hst⟩:=okW_iff h
 have hsub:∀ {c},c ∈ ws.eraseIdx a -> c ∈ ws:=fun hc => List.mem_of_mem_eraseIdx hc
 have hw:=hst _ (List.getElem_mem ha)
 have split:∀ {c},c ∈ ws -> c = ws[a] \/ c ∈ ws.eraseIdx a:=fun {c} hc => by
  obtain ⟨j,hj,rfl⟩:=List.mem_iff_getElem.1 hc
  by_cases ej:j = a
  ·subst ej; exact .inl rfl
  ·obtain ⟨k,hk,_,fk⟩:=erase_at h6 ha hj ej
   exact .inr (by rw [<- fk]; exact List.getElem_mem _)
 constructor
 ·intro hR
  -- the ends of the way,in what is left
  by_cases hx:∃ c ∈ ws.eraseIdx a,stA3 c = stA3 ws[a] \/ stZ3 c = stA3 ws[a]
  ·by_cases hy:∃ c ∈ ws.eraseIdx a,stA3 c = stZ3 ws[a] \/ stZ3 c = stZ3 ws[a]
   ·-- both ends are touched: by ways of the district
    obtain ⟨x,hx,hx2⟩:=hx
    obtain ⟨y,hy,hy2⟩:=hy
    have own:∀ c ∈ ws.eraseIdx a,(stA3 c = stA3 ws[a] \/ stZ3 c = stA3 ws[a] \/ stA3 c = stZ3 ws[a] \/ stZ3 c = stZ3 ws[a]) -> ownB ws[a] c = true:=fun c hc h1 => by
     unfold ownB
     rw [beq_iff_eq]
     refine Classical.byContradiction fun hne => ?_
     have:=hn c (hsub hc) hne
     rw [(jn_iff (hst c (hsub hc)) hw).2 (by rcases h1 with h1 | h1 | h1 | h1; exact .inl h1; exact .inr (.inr (.inl h1)); exact .inr (.inl h1); exact .inr (.inr (.inr h1)))] at this
     cases this
    obtain ⟨k,k1,k2,k3,k4⟩:=own_at ha
    have hoU:=owl_okW h (nrE ws[a])
    rw [k1] at hb
    obtain ⟨S,u,_⟩:=mg_ways hoU
    obtain ⟨S',u',_⟩:=mg_ways (okW_erase hoU k)
    have hall:=(brB_iff hoU k2 u u').1 hb
    have inU:∀ c ∈ ws.eraseIdx a,ownB ws[a] c = true -> nrE c ∈ (owl ws (nrE ws[a]) 0 ws.length).eraseIdx k:=fun c hc ho => by
     rw [k4]; exact List.mem_map_of_mem (List.mem_filter.2 ⟨hc,ho⟩)
    have hxU:=inU x hx (own x hx (by rcases hx2 with g | g; exact .inl g; exact .inr (.inl g)))
    have hyU:=inU y hy (own y hy (by rcases hy2 with g | g; exact .inr (.inr (.inl g)); exact .inr (.inr (.inr g))))
    have hUw:nrE ws[a] ∈ owl ws (nrE ws[a]) 0 ws.length:=List.mem_iff_getElem.2 ⟨k,k2,k3⟩
    have hUs:∀ {c},c ∈ (owl ws (nrE ws[a]) 0 ws.length).eraseIdx k -> c ∈ owl ws (nrE ws[a]) 0 ws.length:=fun hc => List.mem_of_mem_eraseIdx hc
    have sx:S (stA3 (nrE x)) = S (stA3 ws[a]):=by
     rcases hx2 with g | g
     ·rw [show stA3 (nrE x) = stA3 x from rfl,g]
     ·rw [u.one _ (hUs hxU),show stZ3 (nrE x) = stZ3 x from rfl,g]
    have sy:S (stA3 (nrE y)) = S (stZ3 ws[a]):=by
     rcases hy2 with g | g
     ·rw [show stA3 (nrE y) = stA3 y from rfl,g]
     ·rw [u.one _ (hUs hyU),show stZ3 (nrE y) = stZ3 y from rfl,g]
    have sw:S (stA3 ws[a]) = S (stZ3 ws[a]):=u.one (nrE ws[a]) hUw
    have hS':=hall _ hxU _ hyU (by rw [sx,sy,sw])
    -- R' is coarser than S'
    have coarse:∀ p q,S' p = S' q -> R' p = R' q:=fun p q hpq => by
     have l:=u'.least (fun s => R' s = R' q) (fun c hc => by
      rw [k4] at hc
      obtain ⟨c',hc',rfl⟩:=List.mem_map.1 hc
      rw [show stA3 (nrE c') = stA3 c' from rfl,show stZ3 (nrE c') = stZ3 c' from rfl,t'.one c' (List.mem_filter.1 hc').1])
     exact (l p).1 (by rw [hpq]; exact (l q).2 rfl)
    have hR':R' (stA3 ws[a]) = R' (stZ3 ws[a]):=by
     have g1:R' (stA3 x) = R' (stA3 ws[a]):=by
      rcases hx2 with g | g
      ·rw [g]
      ·rw [t'.one x hx,g]
     have g2:R' (stA3 y) = R' (stZ3 ws[a]):=by
      rcases hy2 with g | g
      ·rw [g]
      ·rw [t'.one y hy,g]
     rw [<- g1,<- g2]
     exact coarse _ _ hS'
    have l:=t.least (fun s => R' s = R' (stA3 d)) (fun c hc => by
     rcases split hc with rfl | hc
     ·rw [hR']
     ·rw [t'.one c hc])
    have h1:=(l (stA3 d)).2 rfl
    rw [<- hR] at h1
    exact (l (stA3 e)).1 h1
   ·-- the last end is free
    have hno:∀ c ∈ ws.eraseIdx a,stA3 c ≠ stZ3 ws[a] /\ stZ3 c ≠ stZ3 ws[a]:=fun c hc => ⟨fun g => hy ⟨c,hc,.inl g⟩,fun g => hy ⟨c,hc,.inr g⟩⟩
    have l:=t.least (fun u => (if u = stZ3 ws[a] then R' (stA3 ws[a]) else R' u) = R' (stA3 d)) (fun c hc => by
     rcases split hc with rfl | hc
     ·by_cases e0:stA3 ws[a] = stZ3 ws[a]
      ·rw [e0]
      ·rw [if_pos rfl,if_neg e0]
     ·rw [if_neg (hno c hc).1,if_neg (hno c hc).2,t'.one c hc])
    have h1:=(l (stA3 d)).2 (by rw [if_neg (hno d hd).1])
    rw [<- hR] at h1
    have h2:=(l (stA3 e)).1 h1
    rw [if_neg (hno e he).1] at h2
    exact h2
  ·have hno:∀ c ∈ ws.eraseIdx a,stA3 c ≠ stA3 ws[a] /\ stZ3 c ≠ stA3 ws[a]:=fun c hc => ⟨fun g => hx ⟨c,hc,.inl g⟩,fun g => hx ⟨c,hc,.inr g⟩⟩
   have l:=t.least (fun u => (if u = stA3 ws[a] then R' (stZ3 ws[a]) else R' u) = R' (stA3 d)) (fun c hc => by
    rcases split hc with rfl | hc
    ·by_cases e0:stZ3 ws[a] = stA3 ws[a]
     ·rw [e0]
     ·rw [if_pos rfl,if_neg e0]
    ·rw [if_neg (hno c hc).1,if_neg (hno c hc).2,t'.one c hc])
   have h1:=(l (stA3 d)).2 (by rw [if_neg (hno d hd).1])
   rw [<- hR] at h1
   have h2:=(l (stA3 e)).1 h1
   rw [if_neg (hno e he).1] at h2
   exact h2
 ·intro hR
  have l:=t'.least (fun s => R s = R (stA3 d)) (fun c hc => by rw [t.one c (hsub hc)])
  have h1:=(l (stA3 d)).2 rfl
  rw [<- hR] at h1
  exact (l (stA3 e)).1 h1
end Go.Hn
/- Network: SameGroups of equal lists, as a contract. -/
namespace Go.Hn
open Go.Hx Go.Hg Go.Proofs
end Go.Hn
/- Thin: ThinKeeps: plain law: a way that can go, and what is left. -/
namespace Go.Hn
open Go.Hx Go.Hg Go.Proofs
structure StK (ws:List PV):Prop where
 okc:okC ws = true
 oke:ws.all okE1 = true
 ids:(ws.map wI).Nodup
 ds:∀ e ∈ ws,1 <= wDs e
 chk:chkF ws = 0
theorem allK1_of {B A ns:List PV} {a:Int}:∀ (n:Nat) (k:Int),(∀ j:Int,k <= j -> j < k + n -> prK B A ns a j = true) -> allK1 B A ns a k n = true
 | 0,_,_ => rfl
 | n + 1,k,h => by
  unfold allK1
  rw [h k (Int.le_refl _) (by omega),allK1_of n (k + 1) fun j h1 h2 => h j (by omega) (by omega)]; rfl
theorem allK2_of {B A ns:List PV} {id:Int}:∀ (n:Nat) (k:Int),(∀ j:Int,k <= j -> j < k + n -> onK B A ns id j = true) -> allK2 B A ns id k n = true
 | 0,_,_ => rfl
 | n + 1,k,h => by
  unfold allK2
  rw [h k (Int.le_refl _) (by omega),allK2_of n (k + 1) fun j h1 h2 => h j (by omega) (by omega)]; rfl
theorem allK3_of {ws ns:List PV}:∀ (n:Nat) (k:Int),(∀ j:Int,k <= j -> j < k + n -> nmK ws ns j = true) -> allK3 ws ns k n = true
 | 0,_,_ => rfl
 | n + 1,k,h => by
  unfold allK3
  rw [h k (Int.le_refl _) (by omega),allK3_of n (k + 1) fun j h1 h2 => h j (by omega) (by omega)]; rfl
theorem nmF_of {ns:List PV} {d:Int} {s:ByteArray} {e:PV} (h1:wDs e = d) (h2:(wNm e).toList = s.toList):∀ (n k:Nat),k + n = ns.length -> e ∈ ns.drop k -> nmF ns d s (k:Int) n = true
 | 0,k,h,hm => by rw [List.drop_of_length_le (by omega)] at hm; cases hm
 | n + 1,k,h,hm => by
  have hk:k < ns.length:=by omega
  unfold nmF
  rw [gdk hk,show (k:Int) + 1 = ((k + 1:Nat):Int) by omega,Bool.or_eq_true]
  rw [List.drop_eq_getElem_cons hk] at hm
  rcases List.mem_cons.1 hm with rfl | hm
  ·left
   rw [Bool.and_eq_true,beq_iff_eq,beq_iff_eq]
   exact ⟨h1,h2⟩
  ·exact .inr (nmF_of h1 h2 n (k + 1) (by omega) hm)
theorem nat_idx {i:Int} {n:Nat} (h1:0 <= i) (h2:i < 0 + (n:Int)):∃ x:Nat,∃ _:x < n,i = (x:Int):=⟨i.toNat,by omega,by omega⟩
theorem step_ok {ws:List PV} (t:StK ws) {a:Nat} (ha:a < ws.length) (hg:canW ws (wI ws[a]) = 0):
  apL ws (wI ws[a]) = (ws.eraseIdx a).map nrE /\ StK (apL ws (wI ws[a])) /\ (apL ws (wI ws[a])).length + 1 = ws.length /\
  allK2 (grpL ws) (grpL (apL ws (wI ws[a]))) (apL ws (wI ws[a])) (wI ws[a]) 0 (apL ws (wI ws[a])).length = true /\ allK3 ws (apL ws (wI ws[a])) 0 ws.length = true:=by
 have hf:=fiW_at t.ids ha ws.length 0 (by omega) (Nat.zero_le _)
 rw [show ((0:Nat):Int) = 0 from rfl] at hf
 have e1:apL ws (wI ws[a]) = (ws.eraseIdx a).map nrE:=by unfold apL; rw [hf,Int.toNat_natCast]
 have hC:=t.okc
 unfold okC at hC
 rw [Bool.and_eq_true] at hC
 obtain ⟨h6,hst⟩:=okW_iff hC.1
 have hsub:∀ {c},c ∈ ws.eraseIdx a -> c ∈ ws:=fun hc => List.mem_of_mem_eraseIdx hc
 have hlen:(ws.eraseIdx a).length = ws.length - 1:=List.length_eraseIdx_of_lt ha
 obtain ⟨Bd,Kn,c1,hB,hK⟩:=can_iff hC.1 t.ids ha (t.ds _ (List.getElem_mem ha))
 rw [hg] at c1
 have hBf:Bd = false:=by cases Bd with | false => rfl | true => cases c1
 subst hBf
 rw [cond_false] at c1
 have hbr:brB (owl ws (nrE ws[a]) 0 ws.length) (plc ws (nrE ws[a]) (a:Int) 0 ws.length 0 0) = false:=by
  cases hb:brB (owl ws (nrE ws[a]) 0 ws.length) (plc ws (nrE ws[a]) (a:Int) 0 ws.length 0 0) with
  | false => rfl
  | true => rw [hb] at c1; cases c1
 rw [hbr,cond_false] at c1
 have hKf:Kn = false:=by cases Kn with | false => rfl | true => cases c1
 subst hKf
 have hno:∀ e ∈ ws,wDs e ≠ wDs ws[a] -> jnW e ws[a] = false:=fun e he hne => by
  rw [<- Bool.not_eq_true]
  intro hj
  have:=hB.2 ⟨e,he,hne,hj⟩
  cases this
 rw [e1]
 generalize hns:(ws.eraseIdx a).map nrE = ns
 have hmem:∀ {x},x ∈ ns -> ∃ e ∈ ws.eraseIdx a,nrE e = x:=fun hx => by rw [<- hns] at hx; exact List.mem_map.1 hx
 have hln:ns.length = ws.length - 1:=by rw [<- hns,List.length_map,hlen]
 have idn:(ns.map wI).Nodup:=by
  rw [<- hns,List.map_map]
  exact t.ids.sublist ((List.eraseIdx_sublist ws a).map wI)
 have okw:okW ns = true:=by
  unfold okW
  simp only [Bool.and_eq_true,decide_eq_true_eq,List.all_eq_true]
  refine ⟨by omega,fun x hx => ?_⟩
  obtain ⟨e,he,rfl⟩:=hmem hx
  exact hst e (hsub he)
 have okb:okB ns = true:=by
  have h3:=hC.2
  unfold okB at h3 ⊢
  rw [Bool.and_eq_true,List.all_eq_true] at h3 ⊢
  refine ⟨decide_eq_true (by omega),fun x hx => ?_⟩
  obtain ⟨e,he,rfl⟩:=hmem hx
  exact h3.2 e (hsub he)
 have tn:StK ns:={
  okc:=by unfold okC; rw [okw,okb]; rfl
  oke:=by
   have h3:=t.oke
   rw [List.all_eq_true] at h3 ⊢
   intro x hx
   obtain ⟨e,he,rfl⟩:=hmem hx
   exact h3 e (hsub he)
  ids:=idn
  ds:=fun x hx => by
   obtain ⟨e,he,rfl⟩:=hmem hx
   exact t.ds e (hsub he)
  chk:=by rw [<- hns]; exact chkF_less (by omega) t.chk a }
 have hl1:ns.length + 1 = ws.length:=by rw [hln]; exact Nat.sub_add_cancel (Nat.lt_of_le_of_lt (Nat.zero_le _) ha)
 refine ⟨rfl,tn,hl1,?_,?_⟩
 ·obtain ⟨R,tr,_,gw⟩:=gp_ways hC.1 t.ids
  obtain ⟨R',tr',g0,gn⟩:=gp_ways okw idn
  have tr2:Top (ws.eraseIdx a) R':=top_map (by rw [hns]; exact tr')
  refine allK2_of _ _ fun i h1 h2 => ?_
  obtain ⟨x,hx,rfl⟩:=nat_idx h1 h2
  obtain ⟨e,he,hex⟩:=hmem (List.getElem_mem hx)
  have hwx:wN ns (x:Int) = wI ns[x]:=by unfold wN; rw [gdk hx]
  have hwe:wI ns[x] = wI e:=by rw [<- hex]; rfl
  unfold onK
  simp only [Bool.and_eq_true,Bool.not_eq_true',decide_eq_true_eq]
  refine ⟨?_,?_,allK1_of _ _ fun k h3 h4 => ?_⟩
  ·rw [hwx,hwe,beq_eq_false_iff_ne]
   exact ((erase_ids t.ids ha e).1 he).2
  ·rw [hwx]; exact g0 _ (List.getElem_mem hx)
  ·rw [Int.toNat_natCast] at h4
   obtain ⟨y,hyx,rfl⟩:=nat_idx h3 h4
   have hy:y < ns.length:=Nat.lt_trans hyx hx
   obtain ⟨d,hd,hdy⟩:=hmem (List.getElem_mem hy)
   have hwy:wN ns (y:Int) = wI ns[y]:=by unfold wN; rw [gdk hy]
   have hwd:wI ns[y] = wI d:=by rw [<- hdy]; rfl
   have k1:=gw e (hsub he) d (hsub hd)
   have k2:=gn ns[x] (List.getElem_mem hx) ns[y] (List.getElem_mem hy)
   have k3:=keep_conn hC.1 ha hbr hno tr tr2 he hd
   have s1:stA3 ns[x] = stA3 e:=by rw [<- hex]; exact stA3_nb ..
   have s2:stA3 ns[y] = stA3 d:=by rw [<- hdy]; exact stA3_nb ..
   rw [s1,s2] at k2
   unfold prK gO
   rw [hwx,hwy,beq_iff_eq,Bool.eq_iff_iff,beq_iff_eq,beq_iff_eq,k2,<- k3,hwe,hwd]
   exact k1
 ·refine allK3_of _ _ fun i h1 h2 => ?_
  obtain ⟨x,hx,rfl⟩:=nat_idx h1 h2
  unfold nmK
  rw [gdk hx,Bool.or_eq_true,beq_iff_eq]
  by_cases hn:(wNm ws[x]).toList = (ByteArray.mk #[]).toList
  ·exact .inl hn
  ·right
   have found:∀ e ∈ ws.eraseIdx a,wDs e = wDs ws[x] -> (wNm e).toList = (wNm ws[x]).toList -> nmF ns (wDs ws[x]) (wNm ws[x]) 0 ns.length = true:=fun e he g1 g2 => by
    have hm:nrE e ∈ ns.drop 0:=by rw [List.drop_zero,<- hns]; exact List.mem_map_of_mem he
    exact nmF_of (e:=nrE e) g1 g2 ns.length 0 (by omega) hm
   by_cases hxa:x = a
   ·subst hxa
    refine Classical.byContradiction fun hq => ?_
    have:=hK.2 ⟨hn,fun e he hc => hq (found e he hc.1.symm hc.2.symm)⟩
    cases this
   ·obtain ⟨k,hk,_,fk⟩:=erase_at h6 ha hx hxa
    exact found ws[x] (by rw [<- fk]; exact List.getElem_mem _) rfl rfl
theorem alL_mem {ws:List PV} {d:Int}:∀ (n k:Nat),k + n = ws.length -> ∀ e ∈ alL ws d (k:Int) n,∃ (j:Nat) (hj:j < ws.length),canW ws (wI ws[j]) = 0 /\ e = evE ws (wI ws[j])
 | 0,_,_,e,he => by cases he
 | n + 1,k,h,e,he => by
  have hk:k < ws.length:=by omega
  unfold alL at he
  rw [show (k:Int) + 1 = ((k + 1:Nat):Int) by omega] at he
  have hw:wN ws (k:Int) = wI ws[k]:=by unfold wN; rw [gdk hk]
  cases hg:goB ws d (k:Int) with
  | false => rw [hg] at he; exact alL_mem n (k + 1) (by omega) e he
  | true =>
   rw [hg,cond_true] at he
   rcases List.mem_cons.1 he with rfl | he
   ·unfold goB at hg
    simp only [Bool.and_eq_true,beq_iff_eq] at hg
    rw [hw] at hg ⊢
    exact ⟨k,hk,hg.2.2,rfl⟩
   ·exact alL_mem n (k + 1) (by omega) e he
end Go.Hn
/- Thin: ThinKeeps: the outer loop as a contract; the law as a plain function. -/
namespace Go.Hn
open Go.Hx Go.Hg Go.Proofs
noncomputable def stKB (ws:List PV):Bool:=@decide (StK ws) (Classical.propDecidable _)
theorem stKB_iff {ws:List PV}:stKB ws = true ↔ StK ws:=by unfold stKB; exact @decide_eq_true_iff _ (Classical.propDecidable _)
def kpF (wh:List PV):Nat -> Int -> Bool -> List PV -> Bool × List PV
 | 0,_,f,ws => (f,ws)
 | m + 1,n,f,ws => bif decide (n < (wh.length:Int)) then bif (evN ws:Int) == 0 then (f,ws) else kpF wh m (n + 1) false (apL ws (idE ws wh n)) else (f,ws)
noncomputable def pKp4:LS -> Bool
 | ([.l _ wh,.b _,.i n],[.l _ ws]) => decide (0 <= n) && (okN wh && stKB ws)
 | _ => false
noncomputable def fKp4:LS -> DT (PX × List PV × List Row)
 | ([.l _ wh,.b u,.i n],[.l f ws]) => .leaf (.exit 0,tm 167 [(7,bv u)],rwM (kpF wh (6 - n).toNat n f ws).1 (kpF wh (6 - n).toNat n f ws).2)
 | _ => .no
def mKp4:LS -> Nat
 | ([.l _ _,.b _,.i n],[.l _ _]) => (6 - n).toNat
 | _ => 0
theorem evS_eq (ws:List PV):evS ws = evD ws 2:=by unfold evS; rw [List.nil_append,List.drop_zero,Nat.zero_add,List.take_length]
theorem evD_len (ws:List PV) (d:Int):(evD ws d).length <= ws.length:=by
 have:∀ (n:Nat) (k:Int),(alL ws d k n).length <= n:=by
  intro n
  induction n with
  | zero => intro k; exact Nat.le_refl _
  | succ n ih =>
   intro k
   unfold alL
   cases goB ws d k with
   | true => rw [cond_true,List.length_cons]; have:=ih (k + 1); omega
   | false => rw [cond_false]; have:=ih (k + 1); omega
 have:=this ((ws.length:Int) - 0).toNat 0
 unfold evD
 omega
theorem evR_len (ws:List PV):(evR ws).length = evN ws:=by unfold evR evN; rw [List.nil_append,List.length_append]; omega
theorem evR_mem {ws:List PV} {e:PV} (h:e ∈ evR ws):∃ (j:Nat) (hj:j < ws.length),canW ws (wI ws[j]) = 0 /\ e = evE ws (wI ws[j]):=by
 unfold evR at h
 rw [List.nil_append,List.mem_append,evS_eq] at h
 unfold evD at h
 rw [show ((ws.length:Int) - 0).toNat = ws.length by omega] at h
 rcases h with h | h
 ·exact alL_mem ws.length 0 (by omega) e h
 ·exact alL_mem ws.length 0 (by omega) e h
theorem okN_at {wh:List PV} (h:okN wh = true) {n:Int} (h0:0 <= n) (h1:n < (wh.length:Int)):0 <= ((wh.getD n.toNat .any).cellAt 0).getI /\ ((wh.getD n.toNat .any).cellAt 0).getI <= 255:=by
 unfold okN at h
 rw [Bool.and_eq_true,List.all_eq_true] at h
 have:=h.2 _ (List.getElem_mem (l:=wh) (n:=n.toNat) (by omega))
 rw [Bool.and_eq_true,decide_eq_true_eq,decide_eq_true_eq] at this
 rw [List.getD_eq_getElem?_getD,List.getElem?_eq_getElem (by omega)]
 exact this
theorem sKp4:∀ s r,pKp4 s = true -> (fKp4 s).run = some r -> r.1 ≠ .normal /\ (runB Tryz.prog TK3 60 9 (lpb Tryz.f9 4) [2,7,8,9] [6,7] (shKp4.put s).1 (shKp4.put s).2 = some r \/
   ∃ s',runB Tryz.prog TK3 60 9 (lpb Tryz.f9 4) [2,7,8,9] [6,7] (shKp4.put s).1 (shKp4.put s).2 = some (.normal,shKp4.put s') /\ pKp4 s' = true /\ mKp4 s' < mKp4 s /\ (fKp4 s').run = some r):=by
 intro s r hp hr
 unfold pKp4 at hp; split at hp
 ·rename_i h wh u n f ws
  simp only [Bool.and_eq_true,decide_eq_true_eq] at hp
  obtain ⟨h1,h2,h3⟩:=hp
  have t:=stKB_iff.1 h3
  have hr':=(Option.some.inj hr).symm
  refine ⟨by rw [hr']; simp,?_⟩
  rw [show shKp4.put ([.l h wh,.b u,.i n],[.l f ws]) = shKp4.put (lKp4 h wh u n f ws) from rfl,qKp4]
  have h6:=okC_len t.okc
  by_cases hn:n < (wh.length:Int)
  ·by_cases hn6:n < 6
   ·obtain ⟨m,hm⟩:∃ m,(6 - n).toNat = m + 1:=⟨(6 - n).toNat - 1,by omega⟩
    have hm2:(6 - (n + 1)).toNat = m:=by omega
    rw [hm] at hr'
    simp only [kpF] at hr'
    have c7:(([]:List PV) ++ evD ws 2).length = 0 + (evD ws 2).length:=by rw [List.nil_append,Nat.zero_add]
    have c8:(([]:List PV) ++ evD ws 1).length = 0 + (evD ws 1).length:=by rw [List.nil_append,Nat.zero_add]
    rw [decide_eq_true hn] at hr' ⊢
    rw [decide_eq_true hn6,sameR_self,sameR_self,
     show pMa (lMa 1 0 0 f ws (ws.length:Int) 0 f ws f ws true []) = true by simp only [pMa,Bool.and_eq_true,decide_eq_true_eq,same_iff]; exact ⟨⟨⟨⟨⟨Int.le_refl _,trivial⟩,rfl⟩,trivial⟩,Int.le_refl _⟩,t.okc,trivial⟩,
     show pMb (lMb 2 0 0 f ws (ws.length:Int) 0 f ws f ws (true && (evD ws 1).isEmpty) ([] ++ evD ws 1) f ws true []) = true by simp only [pMb,Bool.and_eq_true,decide_eq_true_eq,same_iff]; exact ⟨⟨⟨⟨⟨Int.le_refl _,trivial⟩,rfl⟩,trivial⟩,Int.le_refl _⟩,t.okc,trivial⟩,
     beq_iff_eq.2 c7,decide_eq_true c8,decide_eq_true (rfl:0 + (evD ws 1).length = 0 + (evD ws 1).length),
     decide_eq_true (show evN ws * 40 <= 140737488355328 by have a1:=evD_len ws 1; have a2:=evD_len ws 2; unfold evN; rw [evS_eq]; omega),inr_of h1 hn]
    simp only [Bool.and_self,cond_true] at hr' ⊢
    cases he:(evN ws:Int) == 0 with
    | true =>
     rw [he] at hr'
     exact .inl (by rw [hr']; rfl)
    | false =>
     rw [he] at hr'
     simp only [cond_false] at hr' ⊢
     have hN:(evN ws:Int) ≠ 0:=beq_eq_false_iff_ne.1 he
     have hb:=okN_at h2 h1 hn
     have hi0:0 <= ixE wh n (evN ws):=by unfold ixE; rw [W_id (by omega) (by omega)]; exact Int.tmod_nonneg _ hb.1
     have hi1:ixE wh n (evN ws) < (evN ws:Int):=by unfold ixE; rw [W_id (by omega) (by omega)]; exact Int.tmod_lt_of_pos _ (by omega)
     have hl:=evR_len ws
     rw [decide_eq_false hN,ixR_of hl hi0 hi1,ldR_of hl,ldR_of hl]
     have hmem:rE (evR ws) (ixE wh n (evN ws)) ∈ evR ws:=by
      unfold rE
      rw [List.getD_eq_getElem?_getD,List.getElem?_eq_getElem (by omega)]
      exact List.getElem_mem _
     obtain ⟨j,hj,hc,hev⟩:=evR_mem hmem
     have hid:idE ws wh n = wI ws[j]:=by unfold idE; rw [hev]; rfl
     obtain ⟨g1,g2,g3,g4,g5⟩:=step_ok t hj hc
     rw [hid] at hr' ⊢
     have hnC:=g2.okc
     unfold okC at hnC
     have hwC:=t.okc
     unfold okC at hwC
     rw [Bool.and_eq_true] at hnC hwC
     have hn6':=okC_len g2.okc
     unfold rdK
     rw [t.okc,t.oke,hc,show (((apL ws (wI ws[j])).length:Int) != W ((ws.length:Int) - 1)) = false by rw [W_id (by omega) (by omega),bne_eq_false_iff_eq]; omega,hnC.2,g2.chk,hwC.1,hnC.1,
      show pKp2 (lKp2 h wh u n (wI ws[j]) false (grpL ws) false (grpL (apL ws (wI ws[j]))) 0 f ws false (apL ws (wI ws[j]))) = true by
       simp only [pKp2,Bool.and_eq_true,decide_eq_true_eq]
       exact ⟨Int.le_refl _,okG_of hwC.1,okG_of hnC.1,by omega,by rw [show (((apL ws (wI ws[j])).length:Int) - 0).toNat = (apL ws (wI ws[j])).length by omega]; exact g4⟩,
      show pKp3 (lKp3 h wh u n 0 f ws false (apL ws (wI ws[j]))) = true by
       simp only [pKp3,Bool.and_eq_true,decide_eq_true_eq]
       exact ⟨Int.le_refl _,by omega,by omega,by rw [show ((ws.length:Int) - 0).toNat = ws.length by omega]; exact g5⟩,
      W_id (n:=n + 1) (by omega) (by omega)]
     refine .inr ⟨lKp4 h wh u (n + 1) false (apL ws (wI ws[j])),rfl,by simp only [pKp4,Bool.and_eq_true,decide_eq_true_eq]; exact ⟨by omega,h2,stKB_iff.2 g2⟩,by simp only [mKp4]; omega,?_⟩
     rw [hr']
     simp only [fKp4,hm2]
     rfl
   ·rw [decide_eq_true hn,decide_eq_false hn6]
    rw [show (6 - n).toNat = 0 by omega] at hr'
    exact .inl (by rw [hr']; rfl)
  ·rw [decide_eq_false hn]
   have hx:kpF wh (6 - n).toNat n f ws = (f,ws):=by
    cases (6 - n).toNat with
    | zero => rfl
    | succ m => unfold kpF; rw [decide_eq_false hn]; rfl
   rw [hx] at hr'
   exact .inl (by rw [hr']; rfl)
 ·cases hp
noncomputable def TK4:EnvK:=TK3.addW 9 4 [2,7,8,9] [] shKp4 pKp4 fKp4
theorem okTK4:EnvOK Tryz.prog TK4.env:=
 okTK3.addW (n:=60) Tryz.func9 (show Tryz.f9.body = some (bod Tryz.f9) by kernel_rfl) (show (loops (bod Tryz.f9)).filter (fun b => rid b == 4) = [lpb Tryz.f9 4] by kernel_rfl) [2,7,8,9] [6,7] [] shKp4 mKp4 sKp4
theorem qTK (f:Bool) (L:List PV) (g:Bool) (nm:List PV) (h:Bool) (wh:List PV):runP Tryz.prog TK4 100 9 [.lst f 3 L,.lst g 5 nm,.lst h 5 wh] =
 bif okN nm then bif pKp4 (lKp4 h wh true 0 false (madeN L nm)) then some (bv true) else none else none:=by kernel_rfl
end Go.Hn
/- Thin: what is made: numbers, lines and districts. -/
namespace Go.Hn
open Go.Hx Go.Hg Go.Proofs
theorem map_set_same {α β:Type} (F:α -> β):∀ {l:List α} {k:Nat} {x:α},(∀ y,l[k]? = some y -> F x = F y) -> (l.set k x).map F = l.map F
 | [],_,_,_ => rfl
 | y :: l,0,x,h => by simp [h y rfl]
 | y :: l,k + 1,x,h => by simp only [List.set_cons_succ,List.map_cons]; rw [map_set_same F fun z hz => h z (by simpa using hz)]
theorem rE_at {es:List PV} {i:Int} {y:PV} (h:es[0 + i.toNat]? = some y):rE es i = y:=by
 unfold rE
 rw [List.getD_eq_getElem?_getD,h]; rfl
theorem esD_map {β:Type} (F:PV -> β) (h1:∀ s e,F (nmE s e) = F e) (h2:∀ d e,F (dsE d e) = F e) (es:List PV) (i v:Int):(esD es i v).map F = es.map F:=by
 have e1:(esN es i v).map F = es.map F:=map_set_same F fun y hy => by rw [h1,rE_at hy]
 exact (map_set_same F fun y hy => by rw [h2,rE_at hy]).trans e1
theorem updL_map {β:Type} (F:PV -> β) (h1:∀ s e,F (nmE s e) = F e) (h2:∀ d e,F (dsE d e) = F e) (nm:List PV):∀ (n:Nat) (i:Int) (es:List PV),(updL nm i n es).map F = es.map F
 | 0,_,_ => rfl
 | n + 1,i,es => by
  unfold updL
  rw [updL_map F h1 h2 nm n]; exact esD_map F h1 h2 ..
theorem dsV_range {v:Int} (h0:0 <= v) (h1:v <= 255):1 <= dsV v /\ dsV v <= 2:=by
 unfold dsV
 have a0:=Int.tdiv_nonneg h0 (show (0:Int) <= 5 by omega)
 have a1:Int.tdiv v 5 <= v:=by rw [Int.tdiv_eq_ediv_of_nonneg h0]; omega
 rw [W_id (n:=Int.tdiv v 5) (by omega) (by omega)]
 have b0:=Int.tmod_nonneg (2:Int) a0
 have b1:=Int.tmod_lt_of_pos (Int.tdiv v 5) (show (0:Int) < 2 by omega)
 rw [W_id (by omega) (by omega)]
 omega
theorem esD_get (es:List PV) (i v:Int) (j:Nat):(esD es i v)[j]? = if 0 + i.toNat = j then (if 0 + i.toNat < es.length then some (dsE (dsV v) (rE (esN es i v) i)) else none) else es[j]?:=by
 unfold esD
 rw [List.getElem?_set,show (esN es i v).length = es.length by unfold esN; simp]
 by_cases h:0 + i.toNat = j
 ·rw [if_pos h,if_pos h]
 ·rw [if_neg h,if_neg h]
  unfold esN
  rw [List.getElem?_set,if_neg h]
theorem updL_ds {nm:List PV} (h:okN nm = true):∀ (n i:Nat) (es:List PV),i + n = es.length -> (∀ j (hj:j < es.length),j < i -> 1 <= wDs es[j] /\ wDs es[j] <= 2) -> ∀ e ∈ updL nm (i:Int) n es,1 <= wDs e /\ wDs e <= 2
 | 0,i,es,hl,hd => fun e he => by
  obtain ⟨j,hj,rfl⟩:=List.mem_iff_getElem.1 he
  exact hd j hj (by have:j < es.length:=hj; omega)
 | n + 1,i,es,hl,hd => by
  unfold updL
  rw [show (i:Int) + 1 = ((i + 1:Nat):Int) by omega]
  refine updL_ds h n (i + 1) _ (by rw [esD_len]; omega) fun j hj hji => ?_
  have hv:=vO_range h (i:=(i:Int)) (by omega)
  have hlen:(esN es (i:Int) (vO nm (i:Int))).length = es.length:=by unfold esN; simp
  have hg:=esD_get es (i:Int) (vO nm (i:Int)) j
  by_cases e:j = i
  ·subst e
   rw [if_pos (by omega),if_pos (by omega)] at hg
   rw [(List.getElem?_eq_some_iff.1 hg).2]
   exact dsV_range hv.1 hv.2
  ·rw [if_neg (by omega),List.getElem?_eq_getElem (l:=es) (by rw [esD_len] at hj; exact hj)] at hg
   rw [(List.getElem?_eq_some_iff.1 hg).2]
   exact hd j _ (by omega)
theorem madeN_map {β:Type} (F:PV -> β) (h1:∀ s e,F (nmE s e) = F e) (h2:∀ d e,F (dsE d e) = F e) (L nm:List PV):(madeN L nm).map F = (fineW L).map F:=updL_map F h1 h2 ..
theorem madeN_ids (L nm:List PV):((madeN L nm).map wI).Nodup:=by rw [madeN_map wI (fun _ _ => rfl) (fun _ _ => rfl)]; exact fine_ids L
theorem madeN_ds {L nm:List PV} (h:okN nm = true):∀ e ∈ madeN L nm,1 <= wDs e /\ wDs e <= 2:=updL_ds h (fineW L).length 0 _ (by omega) fun j _ hj => by omega
theorem all_of_map {β:Type} {F:PV -> β} {p:β -> Bool} {l l':List PV} (h:l.map F = l'.map F) (h2:l'.all (fun e => p (F e)) = true):l.all (fun e => p (F e)) = true:=by
 rw [List.all_eq_true] at h2 ⊢
 intro e he
 have:F e ∈ l'.map F:=by rw [<- h]; exact List.mem_map_of_mem he
 obtain ⟨d,hd,hx⟩:=List.mem_map.1 this
 rw [<- hx]
 exact h2 d hd
theorem madeN_okW (L nm:List PV):okW (madeN L nm) = true:=by
 have h:=fine_okW L
 unfold okW at h ⊢
 rw [madeN_len]
 rw [Bool.and_eq_true] at h ⊢
 exact ⟨h.1,all_of_map (F:=wL) (p:=stB) (madeN_map wL (fun _ _ => rfl) (fun _ _ => rfl) L nm) h.2⟩
theorem madeN_okB (L nm:List PV):okB (madeN L nm) = true:=by
 have h:=fine_okB L
 unfold okB at h ⊢
 rw [Bool.and_eq_true] at h ⊢
 refine ⟨?_,all_of_map (F:=wL) (p:=bigL) (madeN_map wL (fun _ _ => rfl) (fun _ _ => rfl) L nm) h.2⟩
 rw [show bigL (madeN L nm) = bigL (fineW L) by unfold bigL; rw [madeN_len]]
 exact h.1
end Go.Hn
/- Thin: the law ThinKeeps. -/
namespace Go.Hn
open Go.Hx Go.Hg Go.Proofs
theorem madeN_chk (L nm:List PV):chkF (madeN L nm) = 0:=by
 have h6:=(okW_iff (madeN_okW L nm)).1
 have f6:=(okW_iff (fine_okW L)).1
 have hf:=(chkF_iff (by omega)).1 (fine_facts L).2
 have hm:=madeN_map (fun e => (wI e,wL e,wLv e,wWt e)) (fun _ _ => rfl) (fun _ _ => rfl) L nm
 refine (chkF_iff (by omega)).2 ⟨fun e he => ?_,?_⟩
 ·have:(wI e,wL e,wLv e,wWt e) ∈ (fineW L).map fun e => (wI e,wL e,wLv e,wWt e):=by rw [<- hm]; exact List.mem_map_of_mem he
  obtain ⟨d,hd,hx⟩:=List.mem_map.1 this
  simp only [Prod.mk.injEq] at hx
  have:=hf.1 d hd
  unfold okOne rngB at this ⊢
  rw [<- hx.1,<- hx.2.1,<- hx.2.2.1,<- hx.2.2.2]
  exact this
 ·let Q:Int × List PV × Int × Int -> Int × List PV × Int × Int -> Prop:=fun d e => d.1 ≠ e.1 /\ ¬(d.2.2.1 = e.2.2.1 /\ crx d.2.1 e.2.1 = true)
  have h1:((fineW L).map fun e => (wI e,wL e,wLv e,wWt e)).Pairwise Q:=List.pairwise_map.2 (hf.2.imp fun {a b} hab => hab)
  rw [<- hm] at h1
  exact (List.pairwise_map.1 h1).imp fun {a b} hab => hab
theorem madeN_st (L nm:List PV) (h:okN nm = true):StK (madeN L nm) where
 okc:=by unfold okC; rw [madeN_okW,madeN_okB]; rfl
 oke:=by
  refine all_of_map (F:=wL) (p:=fun l => decide (0 < l.length) && decide (l.length <= 1000)) (madeN_map wL (fun _ _ => rfl) (fun _ _ => rfl) L nm) ?_
  rw [List.all_eq_true]
  intro e he
  obtain ⟨k,a,_,_,rfl⟩:=made_mem ((fine_facts L).1.subset he)
  rw [wL_mW]
  have:=mPs_len L a
  rw [Bool.and_eq_true,decide_eq_true_eq,decide_eq_true_eq]
  omega
 ids:=madeN_ids L nm
 ds:=fun e he => (madeN_ds h e he).1
 chk:=madeN_chk L nm
theorem lawK9 (f g k:Bool) (L nm wh:List PV) (h:okN nm = true) (h2:okN wh = true):Hx.Enters Tryz.prog 9 /\ PCall Tryz.prog 9 [.lst f 3 L,.lst g 5 nm,.lst k 5 wh] (bv true):=by
 refine runP_sound okTK4 (n:=100) ?_
 rw [qTK,h,show pKp4 (lKp4 k wh true 0 false (madeN L nm)) = true by simp only [pKp4,Bool.and_eq_true,decide_eq_true_eq]; exact ⟨Int.le_refl _,h2,stKB_iff.2 (madeN_st L nm h)⟩]
 rfl
end Go.Hn
