/- Hx: contracts of calls that see only the rows whose pointers they get. -/
import Derived.Test.YtliaeiggcleoaaaGreatPart4
import Derived.Shelf.SortM.Plain
import Derived.Shelf.SortM.SortNone
import Derived.ProofKit
import Derived.OpenShut
import Derived.ShutString
import Derived.ChangeOld
import Derived.Below
namespace Go.Hx

def posOf:List Nat->Nat->Option Nat
 | [],_=>none
 | k::ks,i=>match k==i with | true=>some 0 | false=>(posOf ks i).map (· + 1)
theorem posOf_get:∀ {K:List Nat} {i j:Nat},posOf K i=some j->K[j]? = some i
 | [],i,j,h=>by simp[posOf] at h
 | k::ks,i,j,h=>by
  simp only[posOf] at h
  split at h
  ·rename_i hk; cases h; simpa using hk
  ·obtain ⟨m,hm,rfl⟩:=Option.map_eq_some_iff.1 h
   simpa using posOf_get hm
theorem posOf_none:∀ {K:List Nat} {i:Nat},posOf K i=none->i ∉ K
 | [],i,_=>by simp
 | k::ks,i,h=>by
  simp only[posOf] at h
  split at h
  ·cases h
  ·rename_i hk
   have:posOf ks i=none:=by simpa using h
   have h1:=posOf_none this
   have h2:k ≠ i:=by simpa using hk
   simp only[List.mem_cons,not_or]
   exact ⟨fun e=>h2 e.symm,h1⟩
theorem posOf_of {K:List Nat} (hn:K.Nodup) {i j:Nat} (h:K[j]? = some i):posOf K i=some j:=by
 cases hp:posOf K i with
 | none=>exact absurd (List.mem_of_getElem? h) (posOf_none hp)
 | some m =>
  have:=posOf_get hp
  have e:=(List.getElem?_inj (List.getElem?_eq_some_iff.1 h).1 hn).1 (h.trans this.symm)
  rw[e]

def Ctx.pick (C:Ctx) (K:List Nat) (Hs:List Row) (m:Nat):Ctx:=
 { ρ:=fun j=>(K[j]?).bind C.ρ,H:=Hs,w:=C.w,fo:=fun b=>C.fo b\/∃ i,i ∉ K/\C.ρ i=some b,ro:=m }
structure Picks (C:Ctx) (K:List Nat) (Hs:List Row) (m:Nat):Prop where
 nodup:K.Nodup
 len:Hs.length=K.length
 get:∀ (j:Nat) i,K[j]? = some i->C.H[i]? = Hs[j]? /\ (m<=j->C.ro<=i)
 most:m<=Hs.length
theorem Picks.lt {C:Ctx} {K:List Nat} {Hs:List Row} {m:Nat} (h:Picks C K Hs m) {i:Nat} (hi:i ∈ K):i<C.H.length:=by
 obtain ⟨j,hj⟩:=List.getElem?_of_mem hi
 have h1:=(h.get j i hj).1
 have h2:j<Hs.length:=by rw[h.len]; exact (List.getElem?_eq_some_iff.1 hj).1
 rw[List.getElem?_eq_getElem h2] at h1
 exact (List.getElem?_eq_some_iff.1 h1).1
theorem pick_row {C:Ctx} {K:List Nat} {Hs:List Row} {m:Nat} (h:Picks C K Hs m) {j i:Nat} (hj:K[j]? = some i):(C.pick K Hs m).row? j=C.row? i:=by
 show rowAt Hs j=rowAt C.H i
 unfold rowAt
 rw[(h.get j i hj).1]
theorem pick_ban {C:Ctx} {K:List Nat} {Hs:List Row} {m:Nat} {b:Nat} (hb:¬ C.ban b):¬ (C.pick K Hs m).ban b:=by
 rintro (⟨j,hj⟩ | hf | ⟨i,_,hi⟩)
 ·simp only[Ctx.pick] at hj
  obtain ⟨i,_,hi⟩:=Option.bind_eq_some_iff.1 hj
  exact hb (.inl ⟨i,hi⟩)
 ·exact hb (.inr hf)
 ·exact hb (.inl ⟨i,hi⟩)
theorem rowAt_some {H:List Row} {i:Nat} {r:Row} (h:rowAt H i=some r):H[i]? = some r:=by
 unfold rowAt at h
 split at h
 ·rename_i r' hr'
  split at h
  ·cases h; exact hr'
  ·cases h
 ·cases h

theorem pick_rh {P:Program} {C:Ctx} (hR:RH P C) {K:List Nat} {Hs:List Row} {m:Nat} (h:Picks C K Hs m) (hk:rowsOk 0 Hs=true):RH P (C.pick K Hs m):=by
 have hfree:∀ {p V},RV P C p V->mlt 0 p=true->RV P (C.pick K Hs m) p V:=fun hv hm=>hv.free (fun b hb=>Classical.byContradiction fun hn=>pick_ban hn hb) rfl hm
 refine ⟨fun j j' b h1 h2 => ?_,fun j b h1 => ?_,fun j b r h1 h2 => ?_,h.most,fun j b h1 => ?_,fun b hb => ?_,fun j b r info h1 h2 h3 h4 => ?_,fun g hl=>⟨pick_ban (hR.glb g hl).1,(hR.glb g hl).2⟩⟩
 ·obtain ⟨i,k1,k2⟩:=Option.bind_eq_some_iff.1 h1
  obtain ⟨i',k1',k2'⟩:=Option.bind_eq_some_iff.1 h2
  have:=hR.inj i i' b k2 k2'
  subst this
  have e1:=posOf_of h.nodup k1
  have e2:=posOf_of h.nodup k1'
  rw[e1] at e2
  exact Option.some.inj e2
 ·obtain ⟨i,k1,k2⟩:=Option.bind_eq_some_iff.1 h1
  rcases hR.dom i b k2 with ⟨r,hr⟩ | ⟨r,info,g1,g2,g3⟩
  ·exact .inl ⟨r,by rw[pick_row h k1]; exact hr⟩
  ·exact .inr ⟨r,info,by show Hs[j]? = _; rw[<- (h.get j i k1).1]; exact g1,g2,g3⟩
 ·obtain ⟨i,k1,k2⟩:=Option.bind_eq_some_iff.1 h1
  have h2':rowAt Hs j=some r:=h2
  rw[pick_row h k1] at h2
  have hB:=hR.blk i b r k2 h2
  obtain ⟨c,fr,cv,m1,m2,m3,m4⟩:=hB.mem
  refine ⟨hB.sz,⟨c,fr,cv,m1,m2,m3,fun k e j' p hk1 hj1=>⟨(m4 k e j' p hk1 hj1).1,hfree (m4 k e j' p hk1 hj1).2 ?_⟩⟩,hB.len,hB.typed⟩
  rcases rowsOk_get hk h2' with hb | hb
  ·exact wt_byval (hB.typed hb e (List.mem_of_getElem? hk1)) 0 p (List.mem_of_getElem? hj1)
  ·exact mlts_get (hb e (List.mem_of_getElem? hk1)) hj1
 ·obtain ⟨i,k1,k2⟩:=Option.bind_eq_some_iff.1 h1
  rintro (hf | ⟨i',hi',hj2⟩)
  ·exact hR.nfo i b k2 hf
  ·have:=hR.inj i i' b k2 hj2
   subst this
   exact hi' (List.mem_of_getElem? k1)
 ·rcases hb with hf | ⟨i,_,hi⟩
  ·exact hR.fol b hf
  ·exact hR.lt hi
 ·obtain ⟨i,k1,k2⟩:=Option.bind_eq_some_iff.1 h1
  have h2':Hs[j]? = some r:=h2
  have h5:=rowsOk_lp hk h2' h3
  rw[<- (h.get j i k1).1] at h2'
  refine (hR.lps i b r info k2 h2' h3 h4).via (fun hl => ?_) (fun _ _ h=>h)
  obtain ⟨⟨rec,m1,m2,m3,m4,m5,m6⟩,ha,hb⟩:=hl
  exact ⟨⟨rec,m1,m2,m3,m4,⟨m5.1,fun j p v g1 g2=>hfree (m5.2 j p v g1 g2) (mlts_get h5 g1)⟩,m6⟩,ha,hb⟩

def putRows (K:List Nat) (H Hs:List Row):List Row:=H.zipIdx.map fun x=>match posOf K x.2 with | some j=>Hs.getD j x.1 | none=>x.1
theorem putRows_get (K:List Nat) (H Hs:List Row) (i:Nat):(putRows K H Hs)[i]? = H[i]?.map fun r=>match posOf K i with | some j=>Hs.getD j r | none=>r:=by
 simp only[putRows,List.getElem?_map,List.getElem?_zipIdx,Nat.zero_add,Option.map_map]
 congr 1
def Ctx.unpick (C C':Ctx) (K:List Nat):Ctx:=
 { ρ:=fun i=>match posOf K i with | some j=>C'.ρ j | none=>C.ρ i,H:=putRows K C.H C'.H,w:=C'.w,fo:=C.fo,ro:=C.ro }
section
variable {P:Program} {C C':Ctx} {K:List Nat} {Hs:List Row} {m:Nat}
theorem unpick_len (h:Picks C K Hs m) (hx:Ext (C.pick K Hs m) C'):K.length<=C'.H.length:=by have:=hx.len; simp only[Ctx.pick,h.len] at this; exact this
theorem unpick_get_in (h:Picks C K Hs m) (hx:Ext (C.pick K Hs m) C') {i j:Nat} (hj:K[j]? = some i):(C.unpick C' K).H[i]? = C'.H[j]?:=by
 show (putRows K C.H C'.H)[i]? = _
 have hi:=h.lt (List.mem_of_getElem? hj)
 have hl:=unpick_len h hx
 have hjl:j<C'.H.length:=Nat.lt_of_lt_of_le (List.getElem?_eq_some_iff.1 hj).1 hl
 rw[putRows_get,List.getElem?_eq_getElem hi,posOf_of h.nodup hj,Option.map_some,List.getElem?_eq_getElem hjl]
 simp[List.getD,List.getElem?_eq_getElem hjl]
theorem unpick_get_out {i:Nat} (hi:posOf K i=none):(C.unpick C' K).H[i]? = C.H[i]?:=by
 show (putRows K C.H C'.H)[i]? = _
 rw[putRows_get,hi]
 cases C.H[i]? <;> rfl
theorem unpick_row_in (h:Picks C K Hs m) (hx:Ext (C.pick K Hs m) C') {i j:Nat} (hj:K[j]? = some i):(C.unpick C' K).row? i=C'.row? j:=by
 unfold Ctx.row? rowAt
 rw[unpick_get_in h hx hj]
theorem unpick_row_out {i:Nat} (hi:posOf K i=none):(C.unpick C' K).row? i=C.row? i:=by
 unfold Ctx.row? rowAt
 rw[unpick_get_out hi]
theorem unpick_ban (hx:Ext (C.pick K Hs m) C') (b:Nat) (hb:(C.unpick C' K).ban b):C'.ban b:=by
 rcases hb with ⟨i,hi⟩ | hf
 ·simp only[Ctx.unpick] at hi
  split at hi
  ·exact .inl ⟨_,hi⟩
  ·rename_i hp
   refine .inr ?_
   rw[hx.fo]
   exact .inr ⟨i,posOf_none hp,hi⟩
 ·refine .inr ?_
  rw[hx.fo]
  exact .inl hf
theorem pick_own (hR:RH P C) {i b:Nat} (hk:i ∉ K) (hi:C.ρ i=some b):¬ (C.pick K Hs m).own b:=by
 rintro ⟨j,_,hj⟩
 obtain ⟨i',k1,k2⟩:=Option.bind_eq_some_iff.1 hj
 have:=hR.inj i i' b hi k2
 subst this
 exact hk (List.mem_of_getElem? k1)
theorem unpick_ext (_hR:RH P C) (h:Picks C K Hs m) (hx:Ext (C.pick K Hs m) C'):Ext C (C.unpick C' K):=by
 have hl:=unpick_len h hx
 refine ⟨hx.os,hx.tape,hx.output,hx.size,fun b hb ho=>hx.block b hb fun hm=>ho ?_,hx.shape,by simp[Ctx.unpick,putRows],fun i r' hi hr => ?_,fun b hb => ?_,fun b hb => ?_,rfl,rfl,fun i hi => ?_,fun i r info h1 h2 h3 => ?_,hx.loop⟩
 ·obtain ⟨j,hjm,hj⟩:=hm
  obtain ⟨i,k1,k2⟩:=Option.bind_eq_some_iff.1 hj
  exact ⟨i,(h.get j i k1).2 hjm,k2⟩
 ·cases hp:posOf K i with
  | some j =>
   have hj:=posOf_get hp
   rw[unpick_row_in h hx hj] at hr
   obtain ⟨r,a1,a2,a3,a4,a5⟩:=hx.rows j r' (by simp only[Ctx.pick,h.len]; exact (List.getElem?_eq_some_iff.1 hj).1) hr
   rw[pick_row h hj] at a1
   exact ⟨r,a1,a2,a3,a4,fun e=>⟨(a5 e).1,fun b hb=>by
    show (match posOf K i with | some j=>C'.ρ j | none=>C.ρ i)=some b
    rw[hp]
    exact (a5 e).2 b (by simp only[Ctx.pick,hj,Option.bind_some]; exact hb)⟩⟩
  | none =>
   rw[unpick_row_out hp] at hr
   exact ⟨r',hr,rfl,rfl,Nat.le_refl _,fun _=>⟨rfl,fun b hb=>by
    show (match posOf K i with | some j=>C'.ρ j | none=>C.ρ i)=some b
    rw[hp]; exact hb⟩⟩
 ·obtain ⟨i,hi⟩:=hb
  simp only[Ctx.unpick] at hi
  split at hi
  ·rcases hx.fresh b ⟨_,hi⟩ with ⟨j,hj⟩ | hs
   ·obtain ⟨i',k1,k2⟩:=Option.bind_eq_some_iff.1 hj
    exact .inl ⟨i',k2⟩
   ·exact .inr hs
  ·exact .inl ⟨i,hi⟩
 ·obtain ⟨i,hir,hi⟩:=hb
  simp only[Ctx.unpick] at hi hir
  split at hi
  ·rename_i j0 hp0
   by_cases hjm:m<=j0
   ·rcases hx.freshOwn b ⟨_,by rw[hx.ro]; exact hjm,hi⟩ with ⟨j,hj0,hj⟩ | hs
    ·obtain ⟨i',k1,k2⟩:=Option.bind_eq_some_iff.1 hj
     exact .inl ⟨i',(h.get j i' k1).2 hj0,k2⟩
    ·exact .inr hs
   ·have hl0:=(hx.low j0 (by show j0<m; omega)).2
    rw[hi] at hl0
    have hb0:=hl0.symm
    simp only[Ctx.pick,posOf_get hp0,Option.bind_some] at hb0
    exact .inl ⟨i,hir,hb0⟩
  ·exact .inl ⟨i,hir,hi⟩
 ·cases hp:posOf K i with
  | none =>
   refine ⟨unpick_get_out hp,?_⟩
   show (match posOf K i with | some j=>C'.ρ j | none=>C.ρ i)=_
   rw[hp]
  | some j =>
   have hj:=posOf_get hp
   have hjm:j<m:=by
    have:=(h.get j i hj).2
    by_cases hm:m<=j
    ·have:=this hm; omega
    ·omega
   obtain ⟨l1,l2⟩:=hx.low j hjm
   refine ⟨by rw[unpick_get_in h hx hj,l1]; exact (h.get j i hj).1.symm,?_⟩
   show (match posOf K i with | some j=>C'.ρ j | none=>C.ρ i)=_
   rw[hp]
   show C'.ρ j=C.ρ i
   rw[l2]
   simp only[Ctx.pick,hj,Option.bind_some]
 ·cases hp:posOf K i with
  | some j =>
   have hj:=posOf_get hp
   obtain ⟨⟨r',st,a1,a2,a3⟩,a4⟩:=hx.lp j r info (by show Hs[j]? = _; rw[<- (h.get j i hj).1]; exact h1) h2 h3
   refine ⟨⟨r',st,by rw[unpick_get_in h hx hj]; exact a1,a2,a3⟩,fun b hb => ?_⟩
   show (match posOf K i with | some j=>C'.ρ j | none=>C.ρ i)=_
   rw[hp]
   exact a4 b (by simp only[Ctx.pick,hj,Option.bind_some]; exact hb)
  | none =>
   refine ⟨⟨r,info.st,by rw[unpick_get_out hp]; exact h1,h2,h3⟩,fun b hb => ?_⟩
   show (match posOf K i with | some j=>C'.ρ j | none=>C.ρ i)=_
   rw[hp]; exact hb
theorem unpick_rh (hR:RH P C) (h:Picks C K Hs m) (hx:Ext (C.pick K Hs m) C') (hR':RH P C') (hk:rowsOk 0 (C'.H.take K.length)=true):RH P (C.unpick C' K):=by
 have hl:=unpick_len h hx
 have hxe:=unpick_ext hR h hx
 have hfree:∀ {p V},RV P C' p V->mlt 0 p=true->RV P (C.unpick C' K) p V:=fun hv hm=>hv.free (unpick_ban hx) rfl hm
 have hfo:∀ b,C'.fo b ↔ C.fo b\/∃ i,i ∉ K/\C.ρ i=some b:=fun b=>by rw[hx.fo]; rfl
 have hold:∀ i b,i ∉ K->C.ρ i=some b->C'.w.heap[b]? = C.w.heap[b]?:=fun i b hk hi=>hx.block b (hR.lt hi) (pick_own hR hk hi)
 have hin:∀ i j b,posOf K i=some j->(C.unpick C' K).ρ i=some b->C'.ρ j=some b:=fun i j b hp hi=>by
  have:(match posOf K i with | some j=>C'.ρ j | none=>C.ρ i)=some b:=hi
  rwa [hp] at this
 have hout:∀ i b,posOf K i=none->(C.unpick C' K).ρ i=some b->C.ρ i=some b:=fun i b hp hi=>by
  have:(match posOf K i with | some j=>C'.ρ j | none=>C.ρ i)=some b:=hi
  rwa [hp] at this
 have htake:∀ i j r,posOf K i=some j->C'.H[j]? = some r->(C'.H.take K.length)[j]? = some r:=fun i j r hp hr=>by
  rw[List.getElem?_take,if_pos (List.getElem?_eq_some_iff.1 (posOf_get hp)).1]; exact hr
 refine ⟨fun i j b h1 h2 => ?_,fun i b h1 => ?_,fun i b r h1 h2 => ?_,Nat.le_trans hR.ro hxe.len,fun i b h1 => ?_,fun b hb=>Nat.lt_of_lt_of_le (hR.fol b hb) hxe.size,fun i b r info h1 h2 h3 h4 => ?_,hR.glb.mono hxe⟩
 ·cases hp:posOf K i with
  | some p =>
   cases hq:posOf K j with
   | some q =>
    have e:=hR'.inj p q b (hin i p b hp h1) (hin j q b hq h2)
    subst e
    have g1:=posOf_get hp
    have g2:=posOf_get hq
    rw[g1] at g2
    exact Option.some.inj g2
   | none=>exact absurd ((hfo b).2 (.inr ⟨j,posOf_none hq,hout j b hq h2⟩)) (hR'.nfo p b (hin i p b hp h1))
  | none =>
   cases hq:posOf K j with
   | some q=>exact absurd ((hfo b).2 (.inr ⟨i,posOf_none hp,hout i b hp h1⟩)) (hR'.nfo q b (hin j q b hq h2))
   | none=>exact hR.inj i j b (hout i b hp h1) (hout j b hq h2)
 ·cases hp:posOf K i with
  | some p =>
   rcases hR'.dom p b (hin i p b hp h1) with ⟨r,hr⟩ | ⟨r,info,g1,g2,g3⟩
   ·exact .inl ⟨r,by rw[unpick_row_in h hx (posOf_get hp)]; exact hr⟩
   ·exact .inr ⟨r,info,by rw[unpick_get_in h hx (posOf_get hp)]; exact g1,g2,g3⟩
  | none =>
   rcases hR.dom i b (hout i b hp h1) with ⟨r,hr⟩ | ⟨r,info,g1,g2,g3⟩
   ·exact .inl ⟨r,by rw[unpick_row_out hp]; exact hr⟩
   ·exact .inr ⟨r,info,by rw[unpick_get_out hp]; exact g1,g2,g3⟩
 ·cases hp:posOf K i with
  | some p =>
   rw[unpick_row_in h hx (posOf_get hp)] at h2
   have hB:=hR'.blk p b r (hin i p b hp h1) h2
   obtain ⟨c,fr,cv,m1,m2,m3,m4⟩:=hB.mem
   refine ⟨hB.sz,⟨c,fr,cv,m1,m2,m3,fun k e j q hk1 hj1=>⟨(m4 k e j q hk1 hj1).1,hfree (m4 k e j q hk1 hj1).2 ?_⟩⟩,hB.len,hB.typed⟩
   have h2':rowAt C'.H p=some r:=h2
   have h3:rowAt (C'.H.take K.length) p=some r:=by
    have g:=htake i p r hp (rowAt_some h2')
    unfold rowAt at h2' ⊢
    rw[g]
    rw[rowAt_some (show rowAt C'.H p=some r from h2)] at h2'
    exact h2'
   rcases rowsOk_get hk h3 with hb | hb
   ·exact wt_byval (hB.typed hb e (List.mem_of_getElem? hk1)) 0 q (List.mem_of_getElem? hj1)
   ·exact mlts_get (hb e (List.mem_of_getElem? hk1)) hj1
  | none =>
   rw[unpick_row_out hp] at h2
   exact (hR.blk i b r (hout i b hp h1) h2).mono hxe (hold i b (posOf_none hp) (hout i b hp h1))
 ·cases hp:posOf K i with
  | some p=>exact fun hf=>hR'.nfo p b (hin i p b hp h1) ((hfo b).2 (.inl hf))
  | none=>exact hR.nfo i b (hout i b hp h1)
 ·cases hp:posOf K i with
  | some p =>
   rw[unpick_get_in h hx (posOf_get hp)] at h2
   have h5:=rowsOk_lp hk (htake i p r hp h2) h3
   refine (hR'.lps p b r info (hin i p b hp h1) h2 h3 h4).via (fun hl => ?_) (fun _ _ h=>h)
   obtain ⟨⟨rec,m1,m2,m3,m4,m5,m6⟩,ha,hb⟩:=hl
   exact ⟨⟨rec,m1,m2,m3,m4,⟨m5.1,fun j q v g1 g2=>hfree (m5.2 j q v g1 g2) (mlts_get h5 g1)⟩,m6⟩,ha,hb⟩
  | none =>
   rw[unpick_get_out hp] at h2
   exact (hR.lps i b r info (hout i b hp h1) h2 h3 h4).mono hxe (hold i b (posOf_none hp) (hout i b hp h1))
end

def rowOf:PV->Option Nat | .ptr i _ _ _=>some i | .sl i _ _ _=>some i | .mp i=>some i | _=>none
def argRows (args:List PV):List Nat:=args.flatMap fun p=>match p with | .fn _ first cap=>(first++cap).filterMap rowOf | .agg cs=>cs.filterMap rowOf | p=>(rowOf p).toList
def renB (K:List Nat):PV->PV
 | .ptr i n k j=>match posOf K i with | some m=>.ptr m n k j | none=>.any
 | .sl i n k l=>match posOf K i with | some m=>.sl m n k l | none=>.any
 | .mp i=>match posOf K i with | some m=>.mp m | none=>.any
 | p=>p
def renA (K:List Nat):PV->PV
 | .fn f first cap=>.fn f (first.map (renB K)) (cap.map (renB K))
 | .agg cs=>.agg (cs.map (renB K))
 | p=>renB K p
def argG:PV->Bool
 | .ptr _ _ _ _=>true
 | .sl _ _ _ _=>true
 | .mp _=>true
 | p=>mlt 0 p
def argF:PV->Bool
 | .fn _ first cap=>first.all argG&&cap.all argG
 | .agg cs=>cs.all argG
 | p=>argG p
theorem pick_argB {P:Program} {C:Ctx} {K:List Nat} {Hs:List Row} {m:Nat} (h:Picks C K Hs m) {p:PV} {V:Value} (hv:RV P C p V) (ho:argG p=true):RV P (C.pick K Hs m) (renB K p) V:=by
 have hfree:mlt 0 p=true->RV P (C.pick K Hs m) p V:=hv.free (fun b hb=>Classical.byContradiction fun hn=>pick_ban hn hb) rfl
 cases hv with
 | ptr hV hk hi hn h1 =>
  rename_i i n k j
  simp only[renB]
  cases hp:posOf K i with
  | none=>exact .any
  | some m =>
   have hm:=posOf_get hp
   refine .ptr hV hk (by show m<Hs.length; rw[h.len]; exact (List.getElem?_eq_some_iff.1 hm).1) (fun r hr=>hn r (by rw[<- pick_row h hm]; exact hr)) fun r hr he => ?_
   obtain ⟨b,g1,g2⟩:=h1 r (by rw[<- pick_row h hm]; exact hr) he
   exact ⟨b,by simp only[Ctx.pick,hm,Option.bind_some]; exact g1,g2⟩
 | sl hV hi hn h1 =>
  rename_i i n k l
  simp only[renB]
  cases hp:posOf K i with
  | none=>exact .any
  | some m =>
   have hm:=posOf_get hp
   refine .sl hV (by show m<Hs.length; rw[h.len]; exact (List.getElem?_eq_some_iff.1 hm).1) (fun r hr=>hn r (by rw[<- pick_row h hm]; exact hr)) fun r hr he => ?_
   obtain ⟨g0,a,cap,g1,g2,g3⟩:=h1 r (by rw[<- pick_row h hm]; exact hr) he
   refine ⟨g0,a,cap,g1,g2,?_⟩
   unfold SlAt at g3 ⊢
   split
   ·rename_i hnl; rw[if_pos hnl] at g3; exact g3
   ·rename_i hnl
    rw[if_neg hnl] at g3
    obtain ⟨b,q1,q2⟩:=g3
    exact ⟨b,by simp only[Ctx.pick,hm,Option.bind_some]; exact q1,q2⟩
 | mp hi hl hb =>
  rename_i i b
  simp only[renB]
  cases hp:posOf K i with
  | none=>exact .any
  | some m =>
   have hm:=posOf_get hp
   obtain ⟨r,info,g1,g2,g3⟩:=hl
   have hg:Hs[m]? = C.H[i]?:=(h.get m i hm).1.symm
   refine .mp (by show m<Hs.length; rw[h.len]; exact (List.getElem?_eq_some_iff.1 hm).1) ⟨r,info,by show Hs[m]? = some r; rw[hg]; exact g1,g2,g3⟩ (by simp only[Ctx.pick,hm,Option.bind_some]; exact hb)
 | _=>exact hfree (by simpa [argG] using ho)
theorem pick_arg {P:Program} {C:Ctx} {K:List Nat} {Hs:List Row} {m:Nat} (h:Picks C K Hs m) {p:PV} {V:Value} (hv:RV P C p V) (ho:argF p=true):RV P (C.pick K Hs m) (renA K p) V:=by
 cases hv with
 | fn h1 h2 h3 h4 =>
  simp only[argF,Bool.and_eq_true] at ho
  simp only[renA]
  refine .fn (by simpa using h1) (by simpa using h2) (fun j c v g1 g2 => ?_) (fun j c v g1 g2 => ?_)
  ·simp only[List.getElem?_map,Option.map_eq_some_iff] at g1
   obtain ⟨x,hx,rfl⟩:=g1
   exact pick_argB h (h3 j x v hx g2) (List.all_eq_true.1 ho.1 x (List.mem_of_getElem? hx))
  ·simp only[List.getElem?_map,Option.map_eq_some_iff] at g1
   obtain ⟨x,hx,rfl⟩:=g1
   exact pick_argB h (h4 j x v hx g2) (List.all_eq_true.1 ho.2 x (List.mem_of_getElem? hx))
 | any=>exact pick_argB h .any ho
 | val=>exact pick_argB h .val ho
 | ptr a b c d e=>exact pick_argB h (.ptr a b c d e) ho
 | sl a b c d=>exact pick_argB h (.sl a b c d) ho
 | lptr a b c d e f=>exact pick_argB h (.lptr a b c d e f) ho
 | Ac a b c d e f g i j=>exact pick_argB h (.Ac a b c d e f g i j) ho
 | agg h1 h2 =>
  simp only[argF] at ho
  simp only[renA]
  refine .agg (by simpa using h1) fun j c v g1 g2 => ?_
  simp only[List.getElem?_map,Option.map_eq_some_iff] at g1
  obtain ⟨x,hx,rfl⟩:=g1
  exact pick_argB h (h2 j x v hx g2) (List.all_eq_true.1 ho x (List.mem_of_getElem? hx))
 | tup a b=>exact pick_argB h (.tup a b) ho
 | ifc a=>exact pick_argB h (.ifc a) ho
 | yld a b c=>exact pick_argB h (.yld a b c) ho
 | mp a b c=>exact pick_argB h (.mp a b c) ho
 | gv a b c d=>exact pick_argB h (.gv a b c d) ho
 | bad a=>exact pick_argB h (.bad a) ho
def backB (n:Nat):PV->Bool
 | .sl m _ _ _=>decide (m<n)
 | p=>mlt 0 p
def backP (K:List Nat):PV->PV
 | .sl m n k l=>.sl (K.getD m 0) n k l
 | p=>p
theorem back_rv {P:Program} {C C':Ctx} {K:List Nat} {Hs:List Row} {m:Nat} (h:Picks C K Hs m) (hx:Ext (C.pick K Hs m) C') {p:PV} {V:Value} (hv:RV P C' p V) (hb:backB K.length p=true):RV P (C.unpick C' K) (backP K p) V:=by
 have hplain:mlt 0 p=true->RV P (C.unpick C' K) p V:=fun hp=>hv.free (unpick_ban hx) rfl hp
 cases hv with
 | sl hV hi hn h1 =>
  rename_i m n k l
  simp only[backB,decide_eq_true_eq] at hb
  have hm:K[m]? = some (K.getD m 0):=by rw[List.getD_eq_getElem?_getD,List.getElem?_eq_getElem hb]; rfl
  simp only[backP]
  refine .sl hV (by show K.getD m 0<(putRows K C.H C'.H).length; simp only[putRows,List.length_map,List.length_zipIdx]; exact h.lt (List.mem_of_getElem? hm)) (fun r hr=>hn r (by rw[<- unpick_row_in h hx hm]; exact hr)) fun r hr he => ?_
  obtain ⟨g0,a,cap,g1,g2,g3⟩:=h1 r (by rw[<- unpick_row_in h hx hm]; exact hr) he
  refine ⟨g0,a,cap,g1,g2,?_⟩
  unfold SlAt at g3 ⊢
  split
  ·rename_i hnl; rw[if_pos hnl] at g3; exact g3
  ·rename_i hnl
   rw[if_neg hnl] at g3
   obtain ⟨b,q1,q2⟩:=g3
   refine ⟨b,?_,q2⟩
   show (match posOf K (K.getD m 0) with | some j=>C'.ρ j | none=>C.ρ (K.getD m 0))=some b
   rw[posOf_of h.nodup hm]; exact q1
 | _=>exact hplain hb

def DT.filt {α:Type} (g:α->Bool):DT α->DT α
 | .leaf a=>match g a with | true=>.leaf a | false=>.no
 | .no=>.no
 | .br b x y=>.br b (x.filt g) (y.filt g)
theorem DT.run_filt {α:Type} {g:α->Bool} {r:α}:∀ {d:DT α},(d.filt g).run=some r->d.run=some r/\g r=true
 | .leaf a,h=>by
  simp only[DT.filt] at h
  split at h
  ·rename_i hg; cases h; exact ⟨rfl,hg⟩
  ·cases h
 | .no,h=>by cases h
 | .br b x y,h=>by
  cases b
  ·exact DT.run_filt (d:=y) h
  ·exact DT.run_filt (d:=x) h

def onRows (c:List PV->List Row->Option (DT (PV × List Row))) (ro:Nat) (args:List PV) (H:List Row):Option (DT (PV × List Row)):=
 let K:=argRows args
 match decide K.Nodup&&K.all (fun i=>decide (ro<=i)&&decide (i<H.length))&&args.all argF&&rowsOk 0 (K.map fun i=>H.getD i default) with
 | true=>(c ((args.map (renA K)).map nrm) (K.map fun i=>H.getD i default)).map fun d=>(d.filt fun r=>backB K.length r.1&&r.2.length==K.length&&rowsOk 0 r.2).map fun r=>(backP K r.1,putRows K H r.2)
 | false=>none
def Ad.addR (E:Ad) (k:FuncId) (c:List PV->List Row->Option (DT (PV × List Row))):Ad:=E.addC k (onRows c)
theorem Ab.addR {P:Program} {E:Ad} (hE:Ab P E.env) {k:FuncId} {c:List PV->List Row->Option (DT (PV × List Row))} (hent:Enters P k)
  (hc:∀ args H d p H',c args H=some d->d.run=some (p,H')->RCall P 0 k args H p H'):Ab P (E.addR k c).env:=by
 refine hE.addC hent fun ro args H d p H' h1 h2 => ?_
 unfold onRows at h1
 dsimp only at h1
 split at h1
 ·rename_i hk
  simp only[Bool.and_eq_true,decide_eq_true_eq] at hk
  obtain ⟨⟨⟨hn,hK⟩,hargs⟩,hok⟩:=hk
  obtain ⟨d0,g1,rfl⟩:=Option.map_eq_some_iff.1 h1
  obtain ⟨⟨p0,H0⟩,g2,g3⟩:=DT.run_map h2
  cases g3
  obtain ⟨g4,g5⟩:=DT.run_filt g2
  simp only[Bool.and_eq_true,beq_iff_eq] at g5
  obtain ⟨⟨gp,gl⟩,gk⟩:=g5
  intro C hH hro hR Vs hv
  subst hH
  have hP:Picks C (argRows args) ((argRows args).map fun i=>C.H.getD i default) 0:=by
   refine ⟨hn,by simp,fun j i hj => ?_,Nat.zero_le _⟩
   have:=List.all_eq_true.1 hK i (List.mem_of_getElem? hj)
   simp only[Bool.and_eq_true,decide_eq_true_eq] at this
   refine ⟨?_,fun _=>by rw[hro]; exact this.1⟩
   rw[List.getElem?_map,hj,Option.map_some,List.getD_eq_getElem?_getD,List.getElem?_eq_getElem this.2]; rfl
  have hR1:=pick_rh hR hP hok
  have hv1:Cs P (C.pick (argRows args) ((argRows args).map fun i=>C.H.getD i default) 0) (args.map (renA (argRows args))) Vs:=by
   refine ⟨by simpa using hv.1,fun j c v q1 q2 => ?_⟩
   simp only[List.getElem?_map,Option.map_eq_some_iff] at q1
   obtain ⟨x,hx,rfl⟩:=q1
   exact pick_arg hP (hv.2 j x v hx q2) (List.all_eq_true.1 hargs x (List.mem_of_getElem? hx))
  refine (hc _ _ _ _ _ g1 g4 _ rfl rfl hR1 Vs hv1.nrm).mono ?_
  rintro e w' ⟨V,C',rfl,rfl,hct⟩
  have hH':=hct.H
  have hle:=unpick_len hP hct.ext
  refine ⟨V,C.unpick C' (argRows args),rfl,rfl,?_,unpick_ext hR hP hct.ext,unpick_rh hR hP hct.ext hct.rh ?_,back_rv hP hct.ext hct.rv gp⟩
  ·show putRows (argRows args) C.H C'.H=putRows (argRows args) C.H H0
   rw[hH']
  ·rw[hH',List.take_of_length_le (by rw[gl]; exact Nat.le_refl _)]; exact gk
 ·cases h1

def onRowsE (c:List PV->List Row->Option (DT PV)) (args:List PV) (H:List Row):Option (DT (PV × List Row)):=
 let K:=argRows args
 match decide K.Nodup&&K.all (fun i=>decide (i<H.length))&&args.all argF&&rowsOk 0 (K.map fun i=>H.getD i default) with
 | true=>(c ((args.map (renA K)).map nrm) (K.map fun i=>H.getD i default)).map fun d=>(d.filt fun p=>mlt 0 p).map fun p=>(p,H)
 | false=>none
def Ad.addRE (E:Ad) (k:FuncId) (c:List PV->List Row->Option (DT PV)):Ad:=E.addC k fun _=>onRowsE c
theorem Ab.addRE {P:Program} {E:Ad} (hE:Ab P E.env) {k:FuncId} {c:List PV->List Row->Option (DT PV)} (hent:Enters P k)
  (hc:∀ args H d p,c args H=some d->d.run=some p->RCall P H.length k args H p H):Ab P (E.addRE k c).env:=by
 refine hE.addC hent fun ro args H d p H' h1 h2 => ?_
 unfold onRowsE at h1
 dsimp only at h1
 split at h1
 ·rename_i hk
  simp only[Bool.and_eq_true,decide_eq_true_eq] at hk
  obtain ⟨⟨⟨hn,hK⟩,hargs⟩,hok⟩:=hk
  obtain ⟨d0,g1,rfl⟩:=Option.map_eq_some_iff.1 h1
  obtain ⟨p0,g2,g3⟩:=DT.run_map h2
  cases g3
  obtain ⟨g4,gp⟩:=DT.run_filt g2
  intro C hH hro hR Vs hv
  subst hH
  have hget:∀ (j:Nat) i,(argRows args)[j]? = some i->C.H[i]? = ((argRows args).map fun i=>C.H.getD i default)[j]?:=fun j i hj=>by
   have:=List.all_eq_true.1 hK i (List.mem_of_getElem? hj)
   simp only[decide_eq_true_eq] at this
   rw[List.getElem?_map,hj,Option.map_some,List.getD_eq_getElem?_getD,List.getElem?_eq_getElem this]; rfl
  have hP:Picks C (argRows args) ((argRows args).map fun i=>C.H.getD i default) ((argRows args).map fun i=>C.H.getD i default).length:=
   ⟨hn,by simp,fun j i hj=>⟨hget j i hj,fun hm=>by
    have h5:=(List.getElem?_eq_some_iff.1 hj).1
    rw[List.length_map] at hm; omega⟩,Nat.le_refl _⟩
  have hR1:=pick_rh hR hP hok
  have hv1:Cs P (C.pick (argRows args) ((argRows args).map fun i=>C.H.getD i default) ((argRows args).map fun i=>C.H.getD i default).length) (args.map (renA (argRows args))) Vs:=by
   refine ⟨by simpa using hv.1,fun j c v q1 q2 => ?_⟩
   simp only[List.getElem?_map,Option.map_eq_some_iff] at q1
   obtain ⟨x,hx,rfl⟩:=q1
   exact pick_arg hP (hv.2 j x v hx q2) (List.all_eq_true.1 hargs x (List.mem_of_getElem? hx))
  refine (hc _ _ _ _ g1 g4 _ rfl rfl hR1 Vs hv1.nrm).mono ?_
  rintro e w' ⟨V,C',rfl,rfl,hct⟩
  have hH':=hct.H
  have hback:putRows (argRows args) C.H C'.H=C.H:=by
   rw[hH']
   apply List.ext_getElem?
   intro i
   rw[putRows_get]
   cases hp:posOf (argRows args) i with
   | none=>cases C.H[i]? <;> rfl
   | some j =>
    have hj:=posOf_get hp
    have h5:=hget j i hj
    cases h6:C.H[i]? with
    | none=>rfl
    | some r =>
     rw[h6] at h5
     rw[Option.map_some]
     show some (List.getD _ j r)=some r
     rw[List.getD_eq_getElem?_getD,<- h5]; rfl
  refine ⟨V,C.unpick C' (argRows args),rfl,rfl,hback,unpick_ext hR hP hct.ext,unpick_rh hR hP hct.ext hct.rh ?_,hct.rv.free (unpick_ban hct.ext) rfl gp⟩
  rw[hH',List.take_of_length_le (by simp)]; exact hok
 ·cases h1

noncomputable def runSE (P:Program) (E:Ad) (n:Nat) (f:FuncId) (args:List PV) (H:List Row):Option PV:=
 callXK P (execK P E n) H.length f args H fun p H'=>frzK H' H.length p fun q=>need (mlt H.length q&&rowsOk H.length (H'.take H.length)) (some q)
theorem runSE_sound {P:Program} {E:Ad} (hE:Ab P E.env) {n:Nat} {f:FuncId} {args:List PV} {H:List Row} {p:PV} (h:runSE P E n f args H=some p):Enters P f/\RCall P H.length f args H p H:=by
 obtain ⟨q,H1,h1,h2⟩:=callXK_some (execK_ref n) h
 have h3:=frzK_some h2
 obtain ⟨h4,h5⟩:=Ae h3
 cases h5
 refine ⟨callX_enters h1,fun C hH hro hR Vs hv => ?_⟩
 subst hH
 refine ((callX_sound hE (exec_ok hE n) hR hro hv h1).2).mono ?_
 rintro e w' ⟨V,C',rfl,rfl,hc⟩
 have hlen:C.H.length<=C'.H.length:=hc.ext.len
 have htk:H1.take C.H.length=C.H:=by
  rw[<- hc.H]
  apply List.ext_getElem?
  intro i
  rw[List.getElem?_take]
  split
  ·rename_i hi; exact (hc.ext.low i (by rw[hro]; exact hi)).1
  ·rename_i hi; rw[List.getElem?_eq_none (by omega)]
 obtain ⟨C2,e1,e2⟩:=settle_sound hR hc (show settle C.H.length q H1=(frz H1 C.H.length q,H1.take C.H.length) by unfold settle; rw[if_pos h4])
 rw[htk] at e2
 exact ⟨V,C2,rfl,e1,e2⟩

noncomputable def runS (P:Program) (E:Ad) (n:Nat) (f:FuncId) (args:List PV) (H:List Row):Option (PV × List Row):=
 callXK P (execK P E n) 0 f args H fun p H'=>frzK H' H.length p fun q=>need (mlt H.length q&&rowsOk H.length (H'.take H.length)) (some (q,H'.take H.length))
theorem runS_sound {P:Program} {E:Ad} (hE:Ab P E.env) {n:Nat} {f:FuncId} {args:List PV} {H H':List Row} {p:PV} (h:runS P E n f args H=some (p,H')):Enters P f/\RCall P 0 f args H p H':=by
 obtain ⟨q,H1,h1,h2⟩:=callXK_some (execK_ref n) h
 have h3:=frzK_some h2
 obtain ⟨h4,h5⟩:=Ae h3
 cases h5
 refine ⟨callX_enters h1,fun C hH hro hR Vs hv => ?_⟩
 subst hH
 refine ((callX_sound hE (exec_ok hE n) hR hro hv h1).2).mono ?_
 rintro e w' ⟨V,C',rfl,rfl,hc⟩
 obtain ⟨C2,e1,e2⟩:=settle_sound hR hc (show settle C.H.length q H1=(frz H1 C.H.length q,H1.take C.H.length) by unfold settle; rw[if_pos h4])
 exact ⟨V,C2,rfl,e1,e2⟩
end Go.Hx
/- Hx: loops' contracts by a model whose states are lists of leaves: a shape takes a state apart and puts it together. -/
namespace Go.Hx
inductive L1 where
 | i (n:Int) | b (b:Bool) | n (n:Nat) | l (f:Bool) (es:List PV) | s (s:ByteArray) | p (p:PV) | r (r:Row) | m (D:List (PV × PV))
inductive X1 where
 | any | int (k:IntKind) | bool | Ac (t:TypeId) | str | ptr (i n k j:Nat) | sl (i:Nat) | slo (i:Nat) | nil | pv | yld (i:Nat) | agg (cs:List X1) | fn (f:FuncId) (first cap:List X1) | mp (i:Nat)
abbrev I64:X1:=.int .i64
mutual
def X1.get:X1->PV->Option (List L1)
 | .any,.any=>some []
 | .int k,.val (.int k' n)=>if k==k' then some [.i n] else none
 | .bool,.val (.bool v)=>some [.b v]
 | .Ac t,.Ac f t' es=>if t==t' then some [.l f es] else none
 | .str,.val (.string s)=>some [.s s]
 | .ptr i n k j,.ptr i' n' k' j'=>if i==i'&&n==n'&&k==k'&&j==j' then some [] else none
 | .sl i,.sl i' n k l=>if i==i'&&k==0 then some [.n n,.n l] else none
 | .slo i,.sl i' n k l=>if i==i' then some [.n n,.n k,.n l] else none
 | .nil,.val (.slice none 0 0)=>some []
 | .pv,p=>some [.p p]
 | .yld i,.yld i'=>if i==i' then some [] else none
 | .agg cs,.agg ps=>X1.gets cs ps
 | .mp i,.mp i'=>if i==i' then some [] else none
 | .fn f a b,.fn (.func f') ags bs=>if f==f' then (match X1.gets a ags,X1.gets b bs with | some x,some y=>some (x++y) | _,_=>none) else none
 | _,_=>none
def X1.gets:List X1->List PV->Option (List L1)
 | [],[]=>some []
 | c::cs,p::ps=>match X1.get c p,X1.gets cs ps with | some x,some xs=>some (x++xs) | _,_=>none
 | _,_=>none
end
mutual
def X1.len:X1->Nat
 | .any=>0 | .int _=>1 | .bool=>1 | .Ac _=>1 | .str=>1 | .ptr _ _ _ _=>0 | .sl _=>2 | .slo _=>3 | .nil=>0 | .pv=>1 | .yld _=>0 | .mp _=>0 | .agg cs=>X1.lens cs | .fn _ a b=>X1.lens a+X1.lens b
def X1.lens:List X1->Nat
 | []=>0 | c::cs=>c.len+X1.lens cs
end
mutual
def X1.put:X1->List L1->PV
 | .any,_=>.any
 | .int k,[.i n]=>.val (.int k n)
 | .bool,[.b v]=>.val (.bool v)
 | .Ac t,[.l f es]=>.Ac f t es
 | .str,[.s s]=>.val (.string s)
 | .ptr i n k j,_=>.ptr i n k j
 | .sl i,[.n n,.n l]=>.sl i n 0 l
 | .slo i,[.n n,.n k,.n l]=>.sl i n k l
 | .nil,_=>.val (.slice none 0 0)
 | .pv,[.p p]=>p
 | .yld i,_=>.yld i
 | .mp i,_=>.mp i
 | .agg cs,xs=>.agg (X1.puts cs xs)
 | .fn f a b,xs=>.fn (.func f) (X1.puts a (xs.take (X1.lens a))) (X1.puts b (xs.drop (X1.lens a)))
 | _,_=>.any
def X1.puts:List X1->List L1->List PV
 | [],_=>[]
 | c::cs,xs=>X1.put c (xs.take c.len)::X1.puts cs (xs.drop c.len)
end
def X1.leafy:X1->Bool | .agg _=>false | .fn _ _ _=>false | _=>true
theorem X1.get_put0 {c:X1} {p:PV} {x:List L1} (hc:c.leafy=true) (h:c.get p=some x):p=c.put x/\x.length=c.len:=by
 unfold X1.get at h
 split at h
 ·cases h; exact ⟨rfl,rfl⟩
 ·split at h
  ·rename_i hk; cases h; rw[beq_iff_eq] at hk; subst hk; exact ⟨rfl,rfl⟩
  ·cases h
 ·cases h; exact ⟨rfl,rfl⟩
 ·split at h
  ·rename_i hk; cases h; rw[beq_iff_eq] at hk; subst hk; exact ⟨rfl,rfl⟩
  ·cases h
 ·cases h; exact ⟨rfl,rfl⟩
 ·split at h
  ·rename_i hk; cases h; simp only[Bool.and_eq_true,beq_iff_eq] at hk; obtain ⟨⟨⟨rfl,rfl⟩,rfl⟩,rfl⟩:=hk; exact ⟨rfl,rfl⟩
  ·cases h
 ·split at h
  ·rename_i hk; cases h; simp only[Bool.and_eq_true,beq_iff_eq] at hk; obtain ⟨rfl,rfl⟩:=hk; exact ⟨rfl,rfl⟩
  ·cases h
 ·split at h
  ·rename_i hk; cases h; rw[beq_iff_eq] at hk; subst hk; exact ⟨rfl,rfl⟩
  ·cases h
 ·cases h; exact ⟨rfl,rfl⟩
 ·cases h; exact ⟨rfl,rfl⟩
 ·split at h
  ·rename_i hk; cases h; rw[beq_iff_eq] at hk; subst hk; exact ⟨rfl,rfl⟩
  ·cases h
 ·cases hc
 ·split at h
  ·rename_i hk; cases h; rw[beq_iff_eq] at hk; subst hk; exact ⟨rfl,rfl⟩
  ·cases h
 ·cases hc
 ·cases h
mutual
theorem X1.get_put:∀ (c:X1) {p:PV} {x:List L1},c.get p=some x->p=c.put x/\x.length=c.len
 | .agg cs,p,x,h=>by
  cases p with
  | agg ps =>
   simp only[X1.get] at h
   obtain ⟨h1,h2⟩:=X1.gets_puts cs h
   exact ⟨by simp only[X1.put]; rw[<- h1],h2⟩
  | _=>simp[X1.get] at h
 | .fn f a b,p,x,h=>by
  cases p with
  | fn g ags bs =>
   cases g with
   | func k =>
    simp only[X1.get] at h
    split at h
    ·rename_i hf
     split at h
     ·rename_i x1 y1 hx hy
      cases h
      obtain ⟨h1,h2⟩:=X1.gets_puts a hx
      obtain ⟨h3,h4⟩:=X1.gets_puts b hy
      rw[beq_iff_eq] at hf
      subst hf
      refine ⟨?_,by simp only[X1.len,List.length_append,h2,h4]⟩
      simp only[X1.put]
      rw[<- h2,List.take_left,List.drop_left,<- h1,<- h3]
     ·cases h
    ·cases h
   | _=>simp[X1.get] at h
  | _=>simp[X1.get] at h
 | .any,_,_,h=>X1.get_put0 rfl h
 | .int _,_,_,h=>X1.get_put0 rfl h
 | .bool,_,_,h=>X1.get_put0 rfl h
 | .Ac _,_,_,h=>X1.get_put0 rfl h
 | .str,_,_,h=>X1.get_put0 rfl h
 | .ptr _ _ _ _,_,_,h=>X1.get_put0 rfl h
 | .sl _,_,_,h=>X1.get_put0 rfl h
 | .slo _,_,_,h=>X1.get_put0 rfl h
 | .nil,_,_,h=>X1.get_put0 rfl h
 | .pv,_,_,h=>X1.get_put0 rfl h
 | .yld _,_,_,h=>X1.get_put0 rfl h
 | .mp _,_,_,h=>X1.get_put0 rfl h
theorem X1.gets_puts:∀ (cs:List X1) {ps:List PV} {x:List L1},X1.gets cs ps=some x->ps=X1.puts cs x/\x.length=X1.lens cs
 | [],ps,x,h=>by cases ps <;> simp[X1.gets] at h; subst h; exact ⟨rfl,rfl⟩
 | c::cs,[],x,h=>by simp[X1.gets] at h
 | c::cs,p::ps,x,h=>by
  simp only[X1.gets] at h
  split at h
  ·rename_i a b h1 h2
   cases h
   obtain ⟨e1,e2⟩:=X1.get_put c h1
   obtain ⟨e3,e4⟩:=X1.gets_puts cs h2
   refine ⟨?_,by simp only[X1.lens,List.length_append,e2,e4]⟩
   simp only[X1.puts]
   rw[<- e2,List.take_left,List.drop_left,<- e1,<- e3]
  ·cases h
end
inductive Y1 where
 | one (t s:Nat) (h:X1) | many (t s:Nat) | raw | onef (t s:Nat) (h:X1) | dead | map (K E:TypeId)
def Y1.get:Y1->Row->Option (List L1)
 | .one t s h,r=>if rowBase r t s && !r.nl then (match r.es with | [e]=>h.get e | _=>none) else none
 | .many t s,r=>if rowBase r t s then some [.l r.nl r.es] else none
 | .raw,r=>some [.r r]
 | .onef t s h,r=>if rowBase { r with bv:=true } t s && !r.nl && !r.bv then (match r.es with | [e]=>h.get e | _=>none) else none
 | .dead,r=>match r with | ⟨[],0,0,true,false,false,none,false⟩=>some [] | _=>none
 | .map K E,r=>match r with | ⟨[],0,0,true,false,false,some ⟨⟨0,[],⟨[]⟩,.skip,.skip⟩,.map K' E' D⟩,false⟩=>if K==K'&&E==E' then some [.m D] else none | _=>none
def Y1.len:Y1->Nat | .one _ _ h=>h.len | .many _ _=>1 | .raw=>1 | .onef _ _ h=>h.len | .dead=>0 | .map _ _=>1
def Y1.put:Y1->List L1->Row
 | .one t s h,xs=>{ es:=[h.put xs],s,t,bv:=true }
 | .many t s,[.l nl es]=>{ es,s,t,bv:=true,nl }
 | .raw,[.r r]=>r
 | .onef t s h,xs=>{ es:=[h.put xs],s,t,bv:=false }
 | .dead,_=>deadRow0
 | .map K E,[.m D]=>{ es:=[],s:=0,t:=0,bv:=true,live:=false,lp:=some ⟨⟨0,[],#[],.skip,.skip⟩,.map K E D⟩ }
 | _,_=>default
theorem Y1.get_put {c:Y1} {p:Row} {x:List L1} (h:c.get p=some x):p=c.put x/\x.length=c.len:=by
 cases c with
 | one t s sh =>
  simp only[Y1.get] at h
  split at h
  ·rename_i hb
   split at h
   ·rename_i e he
    simp only[Bool.and_eq_true,Bool.not_eq_true'] at hb
    obtain ⟨h1,h2⟩:=X1.get_put sh h
    refine ⟨?_,h2⟩
    rw[rowBase_eq hb.1,he,hb.2]
    simp only[Y1.put,<- h1]
   ·cases h
  ·cases h
 | many t s =>
  simp only[Y1.get] at h
  split at h
  ·rename_i hb; cases h; exact ⟨rowBase_eq hb,rfl⟩
  ·cases h
 | raw=>simp only[Y1.get] at h; cases h; exact ⟨rfl,rfl⟩
 | onef t s sh =>
  simp only[Y1.get] at h
  split at h
  ·rename_i hb
   split at h
   ·rename_i e he
    simp only[Bool.and_eq_true,Bool.not_eq_true'] at hb
    obtain ⟨h1,h2⟩:=X1.get_put sh h
    refine ⟨?_,h2⟩
    have h3:=rowBase_eq hb.1.1
    have h4:p={ ({ p with bv:=true }:Row) with bv:=false }:=by
     cases p; simp only at hb; simp only[hb.2]
    rw[h4,h3]
    simp only[he,hb.1.2,Y1.put,<- h1]
   ·cases h
  ·cases h
 | dead =>
  simp only[Y1.get] at h
  split at h
  ·cases h; exact ⟨rfl,rfl⟩
  ·cases h
 | map K E =>
  simp only[Y1.get] at h
  split at h
  ·split at h
   ·rename_i hk
    simp only[Bool.and_eq_true,beq_iff_eq] at hk
    obtain ⟨rfl,rfl⟩:=hk
    cases h; exact ⟨rfl,rfl⟩
   ·cases h
  ·cases h
def Y1.gets:List Y1->List Row->Option (List L1)
 | [],[]=>some []
 | c::cs,p::ps=>match c.get p,Y1.gets cs ps with | some x,some xs=>some (x++xs) | _,_=>none
 | _,_=>none
def Y1.puts:List Y1->List L1->List Row
 | [],_=>[]
 | c::cs,xs=>Y1.put c (xs.take c.len)::Y1.puts cs (xs.drop c.len)
theorem Y1.gets_puts:∀ {cs:List Y1} {ps:List Row} {x:List L1},Y1.gets cs ps=some x->ps=Y1.puts cs x
 | [],[],x,h=>rfl
 | [],_::_,x,h=>by simp[Y1.gets] at h
 | _::_,[],x,h=>by simp[Y1.gets] at h
 | c::cs,p::ps,x,h=>by
  simp only[Y1.gets] at h
  split at h
  ·rename_i a b h1 h2
   cases h
   obtain ⟨e1,e2⟩:=Y1.get_put h1
   simp only[Y1.puts]
   rw[<- e2,List.take_left,List.drop_left,<- e1,<- Y1.gets_puts h2]
  ·cases h
def slG (shs:List (Nat × X1)):Nat->Nat->List PV->Option (List L1)
 | 0,_,[]=>some []
 | n+1,x,p::S=>match ((shs.lookup x).getD .any).get p,slG shs n (x+1) S with | some a,some b=>some (a++b) | _,_=>none
 | _,_,_=>none
def slP (shs:List (Nat × X1)):Nat->Nat->List L1->List PV
 | 0,_,_=>[]
 | n+1,x,xs=>((shs.lookup x).getD .any).put (xs.take ((shs.lookup x).getD .any).len)::slP shs n (x+1) (xs.drop ((shs.lookup x).getD .any).len)
theorem slG_P {shs:List (Nat × X1)}:∀ {n x:Nat} {S:List PV} {xs:List L1},slG shs n x S=some xs->S=slP shs n x xs
 | 0,_,[],_,_=>rfl
 | 0,_,_::_,_,h=>by simp[slG] at h
 | _+1,_,[],_,h=>by simp[slG] at h
 | n+1,x,p::S,xs,h=>by
  simp only[slG] at h
  split at h
  ·rename_i a b h1 h2
   cases h
   obtain ⟨e1,e2⟩:=X1.get_put _ h1
   simp only[slP]
   rw[<- e2,List.take_left,List.drop_left,<- e1,<- slG_P h2]
  ·cases h
abbrev LS:=List L1 × List L1
structure S1 where
 n:Nat
 S:List (Nat × X1)
 H:List Y1
def S1.get (s:S1) (S:List PV) (H:List Row):Option LS:=match slG s.S s.n 0 S,Y1.gets s.H H with | some a,some b=>some (a,b) | _,_=>none
def S1.put (s:S1) (x:LS):List PV × List Row:=(slP s.S s.n 0 x.1,Y1.puts s.H x.2)
theorem S1.get_put {s:S1}:∀ S H x,s.get S H=some x->S=(s.put x).1/\H=(s.put x).2:=by
 intro S H x h
 unfold S1.get at h
 split at h
 ·rename_i a b h1 h2; cases h; exact ⟨slG_P h1,Y1.gets_puts h2⟩
 ·cases h
def Ad.addL2 (E : Ad) (k : FuncId) (i : Nat) (l : List Tmp) (c : Nat → List PV → List Row → Option (DT (PX × List PV × List Row))) : Ad :=
  { E with live := fun f j => if f = k then (if j = i then some l else E.live f j) else E.live f j
           lo := fun f ro j S H => if f = k then (if j = i then (match c ro S H with | some d => some d | none => E.lo f ro j S H) else E.lo f ro j S H) else E.lo f ro j S H }
theorem Ab.addL2 {P:Program} {E:Ad} (hE:Ab P E.env) {k i:Nat} {l:List Tmp} {c:Nat->List PV->List Row->Option (DT (PX × List PV × List Row))} {fn:Func} {body b0:Code} (hf:P.funcs[k]? = some fn) (hb:fn.body=some body)
  (h0:(loops body).filter (fun b=>rid b==i)=[b0]) (hc:SubCode P k (.loop b0)->∀ ro S H d x S' H',c ro S H=some d->d.run=some (x,S',H')->WpTo P (.loop b0) ro S H x S' H'):Ab P (E.addL2 k i l c).env where
 opr:=hE.opr
 inp:=hE.inp
 sft:=hE.sft
 sftE:=hE.sftE
 ent:=hE.ent
 cal:=hE.cal
 ora:=hE.ora
 lo:=fun f fn' b' h1 h2=>by
  refine LoH.of fun b hm hs ro S H x S' H' g => ?_
  change ((if f=k then (if rid b=i then (match c ro S H with | some d=>some d | none=>E.lo f ro (rid b) S H) else E.lo f ro (rid b) S H) else E.lo f ro (rid b) S H)).bind DT.run=some (x,S',H') at g
  have old:(E.lo f ro (rid b) S H).bind DT.run=some (x,S',H')->WpTo P (.loop b) ro S H x S' H':=fun g=>(LoH.sub (P:=P) (E:=E.env) hs (hE.lo f fn' b' h1 h2)).1 ro S H x S' H' g
  split at g
  ·rename_i e
   subst e
   split at g
   ·rename_i e2
    split at g
    ·rename_i d hd
     rw[hf] at h1; cases h1
     rw[hb] at h2; cases h2
     have hb0:b=b0:=by
      have:b ∈ (loops body).filter (fun b=>rid b==i):=List.mem_filter.2 ⟨hm,by simp[e2]⟩
      rw[h0] at this
      simpa using this
     subst hb0
     exact hc ⟨fn,body,hf,hb,hs⟩ ro S H d x S' H' hd g
    ·exact old g
   ·exact old g
  ·exact old g
def Ad.addW (E:Ad) (k i:Nat) (l:List Tmp) (sel:List Bool) (sh:S1) (pre:LS->Bool) (fin:LS->DT (PX × List PV × List Row)):Ad:=E.addL2 k i l (byModel sel sh.get pre fin)
theorem Ab.addW {P:Program} {E:Ad} (hE:Ab P E.env) {n:Nat} {k i:Nat} {fn:Func} {body b:Code} (hf:P.funcs[k]? = some fn) (hb:fn.body=some body) (h0:(loops body).filter (fun b=>rid b==i)=[b])
  (l l':List Tmp) (sel:List Bool) (sh:S1) {pre:LS->Bool} (m:LS->Nat) {fin:LS->DT (PX × List PV × List Row)}
  (hstep:∀ s r,pre s=true->(fin s).run=some r->r.1 ≠ .normal/\(Al P E n k b l l' (sh.put s).1 (sh.put s).2=some r \/
   ∃ s',Al P E n k b l l' (sh.put s).1 (sh.put s).2=some (.normal,sh.put s')/\pre s'=true/\m s'<m s/\(fin s').run=some r)):
  Ab P (E.addW k i l sel sh pre fin).env:=
 hE.addL2 hf hb h0 fun hs ro S H d x S' H'=>loopW hE l l' sh.put S1.get_put m hstep hs ro S H d x S' H'
noncomputable def runBr (P:Program) (E:Ad) (n ro:Nat) (f:FuncId) (b:Code) (l l':List Tmp) (S:List PV) (H:List Row):Option (PX × List PV × List Row):=
 execK P E n ro f b S H fun x S1 H1 =>
  need (decide (H.length<=H1.length)&&rowsOk H.length (H1.take H.length))
   (match x with
   | .normal=>frzsK H1 H.length (keepS (some l) S1) fun S2=>some (.normal,trimS H.length S2,H1.take H.length)
   | .exit i=>frzsK H1 H.length (keepS (some l') S1) fun S2=>some (.exit i,trimS H.length S2,H1.take H.length)
   | .ret=>frzsK H1 H.length (keepS (some l') S1) fun S2=>some (.ret,trimS H.length S2,H1.take H.length))
theorem runBr_sound {P:Program} {E:Ad} (hE:Ab P E.env) {n ro:Nat} {f:FuncId} {b:Code} {l l':List Tmp} {S S':List PV} {H H':List Row} {x:PX} (hb:SubCode P f b) (h:runBr P E n ro f b l l' S H=some (x,S',H')):WpTo P b ro S H x S' H':=by
 obtain ⟨x1,S1,H1,h1,h2⟩:=execK_ref n _ _ _ _ _ _ _ h
 obtain ⟨h3,h4⟩:=Ae h2
 simp only[Bool.and_eq_true,decide_eq_true_eq] at h3
 have hw:=exec_ok hE n _ _ _ _ _ _ _ _ h1 hb
 have key:∀ L:List Tmp,S'=trimS H.length (frzs H1 H.length (keepS (some L) S1))->H'=H1.take H.length->WpTo P b ro S H x1 S' H':=by
  rintro L rfl rfl
  intro r C a hH hro hR hs hro2 Q hQ
  refine hw r C a hH hro hR hs hro2 Q fun a' C' hd hH' hxt hR' hs' => ?_
  subst hH
  subst hH'
  exact hQ a' (C'.cut C.H.length False C'.ro) hd rfl (hxt.cut (Nat.le_refl _) h3.1 hR.ro) (hR'.cut h3.1 (by rw[hxt.ro]; exact hR.ro) h3.2) (trimF_sound hR' h3.1 (keepS_sound (some L) hs'))
 cases x1 with
 | normal=>cases frzsK_some h4; exact key l rfl rfl
 | exit i=>cases frzsK_some h4; exact key l' rfl rfl
 | ret=>cases frzsK_some h4; exact key l' rfl rfl
def byModelR {σ:Type} (r:Nat) (get:List PV->List Row->Option σ) (pre:σ->Bool) (fin:σ->DT (PX × List PV × List Row)) (ro:Nat) (S:List PV) (H:List Row):Option (DT (PX × List PV × List Row)):=
 match ro==r with
 | true=>match get S H with | some s=>some (.br (pre s) (fin s) .no) | none=>none
 | false=>none
theorem loopR {P:Program} {E:Ad} (hE:Ab P E.env) {n q:Nat} {f:FuncId} {b:Code} (l l':List Tmp) {σ:Type} (emb:σ->List PV × List Row) {get:List PV->List Row->Option σ}
  (hget:∀ S H s,get S H=some s->S=(emb s).1/\H=(emb s).2) {pre:σ->Bool} (m:σ->Nat) {fin:σ->DT (PX × List PV × List Row)}
  (hstep:∀ s r,pre s=true->(fin s).run=some r->r.1 ≠ .normal/\(runBr P E n q f b l l' (emb s).1 (emb s).2=some r \/
   ∃ s',runBr P E n q f b l l' (emb s).1 (emb s).2=some (.normal,emb s')/\pre s'=true/\m s'<m s/\(fin s').run=some r)):
  SubCode P f (.loop b)->∀ (ro:Nat) (S:List PV) (H:List Row) (d:DT (PX × List PV × List Row)) (x:PX) (S':List PV) (H':List Row),byModelR q get pre fin ro S H=some d->d.run=some (x,S',H')->WpTo P (.loop b) ro S H x S' H':=by
 intro hsub ro S H d x S' H' hc hd
 unfold byModelR at hc
 split at hc
 ·rename_i he
  rw[beq_iff_eq] at he
  subst he
  split at hc
  ·rename_i s hs
   obtain rfl:=Option.some.inj hc
   obtain ⟨e1,e2⟩:=hget _ _ _ hs
   have hp:pre s=true/\(fin s).run=some (x,S',H'):=by
    change (match pre s with | true=>(fin s).run | false=>DT.no.run)=_ at hd
    cases hq:pre s with
    | true=>rw[hq] at hd; exact ⟨rfl,hd⟩
    | false=>rw[hq] at hd; cases hd
   obtain ⟨hp,hr⟩:=hp
   clear hc hd hs
   have hbody:=hsub.sub (.loop .here)
   rw[e2,e1]
   clear e1 e2
   have hx:=(hstep s _ hp hr).1
   refine Rnds.loop hx ?_
   generalize hm:m s=k
   induction k using Nat.strongRecOn generalizing s with
   | _ k ih =>
    rcases (hstep s _ hp hr).2 with h1 | ⟨s',h1,h2,h3,h4⟩
    ·exact .stop (runBr_sound hE hbody h1)
    ·exact .go (runBr_sound hE hbody h1) (ih (m s') (by omega) s' h2 h4 rfl)
  ·cases hc
 ·cases hc
def Ad.addWr (E:Ad) (q k i:Nat) (l:List Tmp) (sh:S1) (pre:LS->Bool) (fin:LS->DT (PX × List PV × List Row)):Ad:=E.addL2 k i l (byModelR q sh.get pre fin)
theorem Ab.addWr {P:Program} {E:Ad} (hE:Ab P E.env) {n q:Nat} {k i:Nat} {fn:Func} {body b:Code} (hf:P.funcs[k]? = some fn) (hb:fn.body=some body) (h0:(loops body).filter (fun b=>rid b==i)=[b])
  (l l':List Tmp) (sh:S1) {pre:LS->Bool} (m:LS->Nat) {fin:LS->DT (PX × List PV × List Row)}
  (hstep:∀ s r,pre s=true->(fin s).run=some r->r.1 ≠ .normal/\(runBr P E n q k b l l' (sh.put s).1 (sh.put s).2=some r \/
   ∃ s',runBr P E n q k b l l' (sh.put s).1 (sh.put s).2=some (.normal,sh.put s')/\pre s'=true/\m s'<m s/\(fin s').run=some r)):
  Ab P (E.addWr q k i l sh pre fin).env:=
 hE.addL2 hf hb h0 fun hs ro S H d x S' H'=>loopR hE l l' sh.put S1.get_put m hstep hs ro S H d x S' H'
def Ad.addV (E:Ad) (k i:Nat) (l:List Tmp):Ad:={ E with live:=fun f j=>if f=k then (if j=i then some l else E.live f j) else E.live f j }
theorem Ab.addV {P:Program} {E:Ad} (hE:Ab P E.env) (k i:Nat) (l:List Tmp):Ab P (E.addV k i l).env where
 opr:=hE.opr
 inp:=hE.inp
 sft:=hE.sft
 sftE:=hE.sftE
 ent:=hE.ent
 cal:=hE.cal
 ora:=hE.ora
 lo:=fun f fn b h1 h2=>LoH.mono (E:=E.env) (E':=(E.addV k i l).env) (fun _ _ _ _ _ _ _ g=>g) (hE.lo f fn b h1 h2)
noncomputable def same {α:Type} (a b:α):Bool:=@decide (a=b) (Classical.propDecidable _)
theorem same_iff {α:Type} {a b:α}:same a b=true ↔ a=b:=by unfold same; exact @decide_eq_true_iff _ (Classical.propDecidable _)
end Go.Hx
/- Hx: deferred calls that stay; a loop's slots that stay. -/
namespace Go.Hx
def Kept (w w':World):Prop:=∀ (b:Nat) d,w.heap[b]? = some (.deferred d)->w'.heap[b]? = some (.deferred d)
theorem Kept.of {P:Program} {C C':Ctx} (hR:RH P C) (hx:Ext C C'):Kept C.w C'.w:=fun b d h=>by
 rw[hx.block b (Array.getElem?_eq_some_iff.1 h).1 (fun ho=>hR.nodef h ho.has)]; exact h
theorem Dfs.trans' {w w1 w2:World} {a a' a'':Act} (h:Dfs w a w1 a') (hsz:w.heap.size<=w1.heap.size) (kp:Kept w1 w2) (k:Dfs w1 a' w2 a''):Dfs w a w2 a'':=by
 obtain ⟨rs,h1,h2,h3⟩:=h
 obtain ⟨qs,k1,k2,k3⟩:=k
 refine ⟨qs++rs,?_,by rw[k2,h2]; simp,fun r hr => ?_⟩
 ·rw[List.nodup_append]
  refine ⟨k1,h1,fun x hx y hy e => ?_⟩
  subst e
  have:=Dfs.lt (h3 x hy).2
  have:=(k3 x hx).1
  omega
 ·rcases List.mem_append.1 hr with hr | hr
  ·exact ⟨Nat.le_trans hsz (k3 r hr).1,(k3 r hr).2⟩
  ·exact ⟨(h3 r hr).1,kp _ _ (h3 r hr).2⟩

theorem wpTo_keep {P:Program} {b:Code} {ro:Nat} {S S1:List PV} {H H1:List Row} {x:PX} (l:Option (List Tmp)) (g:WpTo P b ro S H x S1 H1):WpTo P b ro S H x (keepS l S1) H1:=
 fun r C a hH hro hR hs hro2 Q hQ=>g r C a hH hro hR hs hro2 Q fun a' C' hd hH' hx hR' hs'=>hQ a' C' hd hH' hx hR' (keepS_sound l hs')
end Go.Hx
/- Hx: rows that are no more needed are let go, the others numbered anew (also where rows name rows); loops at whose rounds' ends that is done. -/
namespace Go.Hx
mutual
/-- Rows have other numbers: row K[j] is row j. -/
def ren (K:List Nat):PV->PV
 | .ptr i n k j=>match posOf K i with | some m=>.ptr m n k j | none=>.any
 | .sl i n k l=>match posOf K i with | some m=>.sl m n k l | none=>.any
 | .mp i=>match posOf K i with | some m=>.mp m | none=>.any
 | .yld i=>match posOf K i with | some m=>.yld m | none=>.any
 | .agg cs=>.agg (rens K cs)
 | .tup cs=>.tup (rens K cs)
 | .fn f a b=>.fn f (rens K a) (rens K b)
 | .ifc t v=>.ifc t (ren K v)
 | p=>p
def rens (K:List Nat):List PV->List PV
 | []=>[]
 | p::ps=>ren K p::rens K ps
end
theorem rens_map (K:List Nat):∀ ps,rens K ps=ps.map (ren K)
 | []=>rfl
 | p::ps=>by simp[rens,rens_map K ps]
theorem ren_cells (K:List Nat) (e:PV):(ren K e).cells=e.cells.map (ren K):=by
 cases e with
 | val v=>cases v <;> simp[ren,PV.cells]
 | agg cs=>simp[ren,PV.cells,rens_map]
 | ptr i n k j=>simp only[ren,PV.cells,List.map_cons,List.map_nil]; cases posOf K i <;> rfl
 | sl i n k l=>simp only[ren,PV.cells,List.map_cons,List.map_nil]; cases posOf K i <;> rfl
 | mp i=>simp only[ren,PV.cells,List.map_cons,List.map_nil]; cases posOf K i <;> rfl
 | yld i=>simp only[ren,PV.cells,List.map_cons,List.map_nil]; cases posOf K i <;> rfl
 | _=>rfl
mutual
/-- What names no row stays. -/
theorem ren_byval {K:List Nat}:∀ {p:PV},mlt 0 p=true->ren K p=p
 | .val _,_=>rfl
 | .any,_=>rfl
 | .Ac _ _ _,_=>rfl
 | .lptr _ _ _,_=>rfl
 | .gv _,_=>rfl
 | .bad _,_=>rfl
 | .ptr _ _ _ _,h=>by simp[mlt] at h
 | .sl _ _ _ _,h=>by simp[mlt] at h
 | .mp _,h=>by simp[mlt] at h
 | .yld _,h=>by simp[mlt] at h
 | .agg cs,h=>by simp only[ren]; rw[rens_byval (by simpa [mlt] using h)]
 | .tup cs,h=>by simp only[ren]; rw[rens_byval (by simpa [mlt] using h)]
 | .fn f a b,h=>by
  simp only[mlt,Bool.and_eq_true] at h
  simp only[ren]; rw[rens_byval h.1,rens_byval h.2]
 | .ifc t v,h=>by simp only[ren]; rw[ren_byval (by simpa [mlt] using h)]
theorem rens_byval {K:List Nat}:∀ {ps:List PV},mlts 0 ps=true->rens K ps=ps
 | [],_=>rfl
 | p::ps,h=>by
  simp only[mlts,Bool.and_eq_true] at h
  simp only[rens]; rw[ren_byval h.1,rens_byval h.2]
end
def renR (K:List Nat) (r:Row):Row:=
 match r.live with
 | false=>r
 | true=>match r.bv with | true=>r | false=>{ r with es:=r.es.map (ren K) }
theorem renR_shp (K:List Nat) (r:Row):ShpR r (renR K r):=by
 unfold renR
 cases hl:r.live with
 | false=>exact ⟨rfl,rfl,rfl,rfl⟩
 | true=>cases hb:r.bv <;> simp[ShpR]
theorem renR_live (K:List Nat) (r:Row):(renR K r).live=r.live:=by
 unfold renR
 cases hl:r.live with
 | false=>exact hl
 | true=>cases hb:r.bv <;> simp[hl]
theorem renR_lp (K:List Nat) (r:Row):(renR K r).lp=r.lp:=by
 unfold renR
 cases hl:r.live with
 | false=>rfl
 | true=>cases hb:r.bv <;> rfl
theorem renR_dead {K:List Nat} {r:Row} (h:r.live=false):renR K r=r:=by unfold renR; rw[h]
def gcH (K:List Nat) (H:List Row):List Row:=K.map fun i=>renR K (H.getD i default)
def Ctx.gc (C:Ctx) (K:List Nat):Ctx:={ C with ρ:=fun j=>K[j]?.bind C.ρ,H:=gcH K C.H }
structure Gc (C:Ctx) (K:List Nat):Prop where
 nodup:K.Nodup
 lt:∀ i,i ∈ K->i<C.H.length
 lpc:∀ (i:Nat) r info,C.H[i]? = some r->r.lp=some info->mlts 0 info.k.S0=true
section
variable {P:Program} {C:Ctx} {K:List Nat}
theorem gc_get (h:Gc C K) {j i:Nat} (hj:K[j]? = some i):(C.gc K).H[j]? = C.H[i]?.map (renR K):=by
 show (K.map _)[j]? = _
 have hi:=h.lt i (List.mem_of_getElem? hj)
 rw[List.getElem?_map,hj,Option.map_some,List.getD_eq_getElem?_getD,List.getElem?_eq_getElem hi]; rfl
theorem gc_row (h:Gc C K) {j i:Nat} (hj:K[j]? = some i):(C.gc K).row? j=(C.row? i).map (renR K):=by
 show rowAt (C.gc K).H j=(rowAt C.H i).map _
 unfold rowAt
 rw[gc_get h hj]
 cases C.H[i]? with
 | none=>rfl
 | some r =>
  show (if (renR K r).live=true then some (renR K r) else none)=Option.map _ (if r.live=true then some r else none)
  rw[renR_live]
  by_cases hl:r.live=true
  ·rw[if_pos hl,if_pos hl]; rfl
  ·rw[if_neg hl,if_neg hl]; rfl
theorem gc_ρ {j b:Nat} (h:(C.gc K).ρ j=some b):∃ i,K[j]? = some i/\C.ρ i=some b:=Option.bind_eq_some_iff.1 h
theorem gc_ban {b:Nat} (hb:¬ C.ban b):¬ (C.gc K).ban b:=by
 rintro (⟨j,hj⟩ | hf)
 ·obtain ⟨i,_,hi⟩:=gc_ρ hj; exact hb (.inl ⟨i,hi⟩)
 ·exact hb (.inr hf)
theorem RV.gc (h:Gc C K) {p:PV} {V:Value} (hv:RV P C p V):RV P (C.gc K) (ren K p) V:=by
 induction hv with
 | any=>exact .any
 | val=>exact .val
 | @ptr i n k j V hV hk hi hn h1 =>
  simp only[ren]
  cases hp:posOf K i with
  | none=>exact .any
  | some m =>
   have hm:=posOf_get hp
   refine .ptr hV hk (by show m<(gcH K C.H).length; simp[gcH]; exact (List.getElem?_eq_some_iff.1 hm).1) (fun r hr => ?_) fun r hr he => ?_
   ·rw[gc_row h hm] at hr
    obtain ⟨r0,a,rfl⟩:=Option.map_eq_some_iff.1 hr
    rw[<- (renR_shp K r0).2.1]; exact hn r0 a
   ·rw[gc_row h hm] at hr
    obtain ⟨r0,a,rfl⟩:=Option.map_eq_some_iff.1 hr
    obtain ⟨b,g1,g2⟩:=h1 r0 a (by rw[(renR_shp K r0).2.1]; exact he)
    exact ⟨b,by simp only[Ctx.gc,hm,Option.bind_some]; exact g1,by rw[<- (renR_shp K r0).1]; exact g2⟩
 | lptr cv hb hlt hc hr ht ih =>
  rename_i t e j b off
  simp only[ren]
  refine .lptr cv (gc_ban hb) hlt hc (fun x p hx => ?_) ht
  have h2:=ih x p hx
  have h3:ren K p=p:=ren_byval (wt_byval ht 0 _ (List.mem_of_getElem? hx))
  rw[h3] at h2; exact h2
 | @sl i n k len V hV hi hn h1 =>
  simp only[ren]
  cases hp:posOf K i with
  | none=>exact .any
  | some m =>
   have hm:=posOf_get hp
   refine .sl hV (by show m<(gcH K C.H).length; simp[gcH]; exact (List.getElem?_eq_some_iff.1 hm).1) (fun r hr => ?_) fun r hr he => ?_
   ·rw[gc_row h hm] at hr
    obtain ⟨r0,a,rfl⟩:=Option.map_eq_some_iff.1 hr
    rw[<- (renR_shp K r0).2.1]; exact hn r0 a
   ·rw[gc_row h hm] at hr
    obtain ⟨r0,a,rfl⟩:=Option.map_eq_some_iff.1 hr
    obtain ⟨g0,ad,cap,g1,g2,g3⟩:=h1 r0 a (by rw[(renR_shp K r0).2.1]; exact he)
    refine ⟨g0,ad,cap,g1,g2,?_⟩
    unfold SlAt at *
    rw[<- (renR_shp K r0).1,<- (renR_shp K r0).2.2.1,<- (renR_shp K r0).2.1]
    split
    ·rename_i hnl; rwa [if_pos hnl] at g3
    ·rename_i hnl
     rw[if_neg hnl] at g3
     obtain ⟨b,q1,q2⟩:=g3
     exact ⟨b,by simp only[Ctx.gc,hm,Option.bind_some]; exact q1,q2⟩
 | Ac b off cv hcap hfull ha hc hr ht ih =>
  rename_i full t es a cap
  simp only[ren]
  refine .Ac b off cv hcap hfull (fun h0 => ?_) hc (fun x e j p hx hj => ?_) ht
  ·obtain ⟨g1,g2,g3⟩:=ha h0
   exact ⟨g1,gc_ban g2,g3⟩
  ·have h2:=ih x e j p hx hj
   have h3:ren K p=p:=ren_byval (wt_byval (ht e (List.mem_of_getElem? hx)) 0 _ (List.mem_of_getElem? hj))
   rw[h3] at h2; exact h2
 | agg hs _ ih =>
  simp only[ren,rens_map]
  refine .agg (by simpa using hs) fun j c v h1 h2 => ?_
  rw[List.getElem?_map] at h1
  obtain ⟨x,hx,rfl⟩:=Option.map_eq_some_iff.1 h1
  exact ih j x v hx h2
 | tup hs _ ih =>
  simp only[ren,rens_map]
  refine .tup (by simpa using hs) fun j c v h1 h2 => ?_
  rw[List.getElem?_map] at h1
  obtain ⟨x,hx,rfl⟩:=Option.map_eq_some_iff.1 h1
  exact ih j x v hx h2
 | fn h1 h2 _ _ ih3 ih4 =>
  simp only[ren,rens_map]
  refine .fn (by simpa using h1) (by simpa using h2) (fun j c v g1 g2 => ?_) (fun j c v g1 g2 => ?_)
  ·rw[List.getElem?_map] at g1
   obtain ⟨x,hx,rfl⟩:=Option.map_eq_some_iff.1 g1
   exact ih3 j x v hx g2
  ·rw[List.getElem?_map] at g1
   obtain ⟨x,hx,rfl⟩:=Option.map_eq_some_iff.1 g1
   exact ih4 j x v hx g2
 | ifc _ ih=>simp only[ren]; exact .ifc ih
 | @yld i b hi hl hb =>
  simp only[ren]
  cases hp:posOf K i with
  | none=>exact .any
  | some m =>
   have hm:=posOf_get hp
   obtain ⟨r,info,g1,g2,g3⟩:=hl
   exact .yld (by show m<(gcH K C.H).length; simp[gcH]; exact (List.getElem?_eq_some_iff.1 hm).1) ⟨r,info,by rw[gc_get h hm,g1,Option.map_some,renR_dead g3],g2,g3⟩ (by simp only[Ctx.gc,hm,Option.bind_some]; exact hb)
 | @mp i b hi hl hb =>
  simp only[ren]
  cases hp:posOf K i with
  | none=>exact .any
  | some m =>
   have hm:=posOf_get hp
   obtain ⟨r,info,g1,g2,g3⟩:=hl
   exact .mp (by show m<(gcH K C.H).length; simp[gcH]; exact (List.getElem?_eq_some_iff.1 hm).1) ⟨r,info,by rw[gc_get h hm,g1,Option.map_some,renR_dead g3],g2,g3⟩ (by simp only[Ctx.gc,hm,Option.bind_some]; exact hb)
 | gv hb hlt hc hV=>exact .gv (gc_ban hb) hlt hc hV
 | bad hb=>exact .bad (hb.tr fun x v h1 h2 h3=>⟨gc_ban h1,h2,h3⟩)
end
section
variable {P:Program} {C:Ctx} {K:List Nat}
theorem RH.gc (hR:RH P C) (h:Gc C K) (hro:C.ro<=K.length):RH P (C.gc K):=by
 refine ⟨fun i j b h1 h2 => ?_,fun j b h1 => ?_,fun j b r h1 h2 => ?_,by simpa [Ctx.gc,gcH] using hro,fun j b h1 => ?_,fun b hb=>hR.fol b hb,fun j b r info h1 h2 h3 h4 => ?_,fun g hl=>⟨gc_ban (hR.glb g hl).1,(hR.glb g hl).2⟩⟩
 ·obtain ⟨a,k1,k2⟩:=gc_ρ h1
  obtain ⟨c,l1,l2⟩:=gc_ρ h2
  have:=hR.inj _ _ _ k2 l2
  subst this
  have hi:i<K.length:=(List.getElem?_eq_some_iff.1 k1).1
  exact (List.getElem?_inj hi h.nodup).1 (k1.trans l1.symm)
 ·obtain ⟨i,k1,k2⟩:=gc_ρ h1
  rcases hR.dom i b k2 with ⟨r,hr⟩ | ⟨r,info,g1,g2,g3⟩
  ·exact .inl ⟨renR K r,by rw[gc_row h k1,hr]; rfl⟩
  ·exact .inr ⟨r,info,by rw[gc_get h k1,g1,Option.map_some,renR_dead g3],g2,g3⟩
 ·obtain ⟨i,k1,k2⟩:=gc_ρ h1
  rw[gc_row h k1] at h2
  obtain ⟨r0,a,rfl⟩:=Option.map_eq_some_iff.1 h2
  have hB:=hR.blk i b r0 k2 a
  obtain ⟨c,fr,cv,m1,m2,m3,m4⟩:=hB.mem
  have hlive:=live_of a
  unfold renR
  rw[hlive]
  dsimp only
  cases hbv:r0.bv with
  | true =>
   dsimp only
   refine ⟨hB.sz,⟨c,fr,cv,m1,m2,m3,fun k e j p hk hj=>⟨(m4 k e j p hk hj).1,?_⟩⟩,hB.len,hB.typed⟩
   have h3:ren K p=p:=ren_byval (wt_byval (hB.typed hbv e (List.mem_of_getElem? hk)) 0 p (List.mem_of_getElem? hj))
   have:=(m4 k e j p hk hj).2.gc h
   rw[h3] at this; exact this
  | false =>
   dsimp only
   refine ⟨hB.sz,⟨c,fr,cv,m1,m2,by simpa using m3,fun k e j p hk hj => ?_⟩,fun e he => ?_,fun hb2=>by cases hb2⟩
   ·simp only[List.getElem?_map,Option.map_eq_some_iff] at hk
    obtain ⟨e0,hk0,rfl⟩:=hk
    rw[ren_cells,List.getElem?_map,Option.map_eq_some_iff] at hj
    obtain ⟨p0,hj0,rfl⟩:=hj
    exact ⟨(m4 k e0 j p0 hk0 hj0).1,(m4 k e0 j p0 hk0 hj0).2.gc h⟩
   ·obtain ⟨e0,he0,rfl⟩:=List.mem_map.1 he
    rw[ren_cells,List.length_map]
    exact hB.len e0 he0
 ·obtain ⟨i,k1,k2⟩:=gc_ρ h1
  exact hR.nfo i b k2
 ·obtain ⟨i,k1,k2⟩:=gc_ρ h1
  rw[gc_get h k1] at h2
  obtain ⟨r0,a,rfl⟩:=Option.map_eq_some_iff.1 h2
  rw[renR_lp] at h3
  rw[renR_live] at h4
  refine (hR.lps i b r0 info k2 a h3 h4).via (fun hl => ?_) (fun _ _ h=>h)
  obtain ⟨⟨rec,m1,m2,m3,m4,m5,m6⟩,ha,hb⟩:=hl
  refine ⟨⟨rec,m1,m2,m3,m4,⟨m5.1,fun j p v g1 g2 => ?_⟩,m6⟩,ha,hb⟩
  have h5:ren K p=p:=ren_byval (mlts_get (h.lpc i r0 info a h3) g1)
  have:=(m5.2 j p v g1 g2).gc h
  rw[h5] at this; exact this
theorem RSl.gc (h:Gc C K) {S:List PV} {t:Array Value} (hs:RSl P C S t):RSl P (C.gc K) (S.map (ren K)) t:=by
 refine ⟨by simpa using hs.1,fun i p v h1 h2 => ?_⟩
 rw[List.getElem?_map] at h1
 obtain ⟨q,hq,rfl⟩:=Option.map_eq_some_iff.1 h1
 exact (hs.2 i q v hq h2).gc h
theorem Ext.gc {C0:Ctx} (hx:Ext C0 C) (h:Gc C K) (h0:∀ i,i<C0.H.length->K[i]? = some i) (hro:C0.ro=0):Ext C0 (C.gc K) where
 os:=hx.os
 tape:=hx.tape
 output:=hx.output
 size:=hx.size
 block:=hx.block
 shape:=hx.shape
 len:=by
  show C0.H.length<=(gcH K C.H).length
  have:(gcH K C.H).length=K.length:=by simp[gcH]
  rw[this]
  rcases Nat.eq_zero_or_pos C0.H.length with g | g
  ·omega
  ·have:=(List.getElem?_eq_some_iff.1 (h0 (C0.H.length-1) (by omega))).1
   omega
 rows i r' hi hr:=by
  rw[gc_row h (h0 i hi)] at hr
  obtain ⟨r1,a,rfl⟩:=Option.map_eq_some_iff.1 hr
  obtain ⟨s1,s2,s3,s4⟩:=renR_shp K r1
  obtain ⟨r,b1,b2,b3,b4,b5⟩:=hx.rows i r1 hi a
  refine ⟨r,b1,b2.trans s1,b3.trans s4,by rw[<- s2]; exact b4,fun e=>⟨(b5 (by rw[s2]; exact e)).1.trans s3,fun b hb => ?_⟩⟩
  show (K[i]?.bind C.ρ)=some b
  rw[h0 i hi]
  exact (b5 (by rw[s2]; exact e)).2 b hb
 fresh b hb:=by
  obtain ⟨j,hj⟩:=hb
  obtain ⟨i,_,hi⟩:=gc_ρ hj
  exact hx.fresh b ⟨i,hi⟩
 freshOwn b hb:=by
  obtain ⟨j,_,hj⟩:=hb
  obtain ⟨i,_,hi⟩:=gc_ρ hj
  exact hx.freshOwn b ⟨i,by rw[hx.ro,hro]; omega,hi⟩
 fo:=hx.fo
 ro:=hx.ro
 low i hi:=by omega
 lp i r info h1 h2 h3:=by
  obtain ⟨⟨r',st,a1,a2,a3⟩,a4⟩:=hx.lp i r info h1 h2 h3
  have hi:=(List.getElem?_eq_some_iff.1 h1).1
  refine ⟨⟨r',st,by rw[gc_get h (h0 i hi),a1,Option.map_some,renR_dead a3],a2,a3⟩,fun b hb => ?_⟩
  show (K[i]?.bind C.ρ)=some b
  rw[h0 i hi]
  exact a4 b hb
 loop:=hx.loop
end
def lp0 (H:List Row):Bool:=H.all fun r=>match r.lp with | some info=>mlts 0 info.k.S0 | none=>true
def gcOk (n0:Nat) (K:List Nat) (H:List Row):Bool:=decide K.Nodup&&K.all (fun i=>decide (i<H.length))&&lp0 H&&(List.range n0).all fun i=>K[i]? == some i
theorem gcOk_gc {n0:Nat} {K:List Nat} {C:Ctx} (h:gcOk n0 K C.H=true):Gc C K/\∀ i,i<n0->K[i]? = some i:=by
 simp only[gcOk,Bool.and_eq_true,decide_eq_true_eq,List.all_eq_true,List.mem_range,beq_iff_eq] at h
 obtain ⟨⟨⟨h1,h2⟩,h3⟩,h4⟩:=h
 refine ⟨⟨h1,h2,fun i r info g1 g2 => ?_⟩,h4⟩
 have:=List.all_eq_true.1 h3 r (List.mem_of_getElem? g1)
 rw[g2] at this; exact this
inductive RndsG (P:Program) (b:Code) (n0:Nat) (x:PX) (S':List PV) (H':List Row):List PV->List Row->Prop
 | stop {S:List PV} {H:List Row} (g:WpTo P b 0 S H x S' H'):RndsG P b n0 x S' H' S H
 | go {S S1:List PV} {H H1:List Row} {K:List Nat} (g:WpTo P b 0 S H .normal S1 H1) (ok:gcOk n0 K H1=true) (k:RndsG P b n0 x S' H' (S1.map (ren K)) (gcH K H1)):RndsG P b n0 x S' H' S H
theorem roundsG {P:Program} {b:Code} {n0:Nat} {x:PX} {S':List PV} {H':List Row} (hx:x ≠ .normal) {S:List PV} {H:List Row} (hr:RndsG P b n0 x S' H' S H):
  ∃ n,∀ (r:Option Nat) (C0 C:Ctx) (a:Act),C.H=H->C.ro=0->RH P C->RSl P C S a.tmps->RoundOK r C.w->C0.H.length=n0->C0.ro=0->Ext C0 C->∀ Q:Exit->Act->World->Prop,
   (∀ (a':Act) (C':Ctx),Dfs C.w a C'.w a'->Kept C.w C'.w->C'.H=H'->Ext C0 C'->RH P C'->RSl P C' S' a'.tmps->Q (XOut x) a' C'.w)->Code.roundsIn (Fr r) 0 P b Q (n+1) a C.w:=by
 induction hr with
 | @stop S H g =>
  refine ⟨0,fun r C0 C a hH hro hR hs hro2 h0 hr0 hx0 Q hQ => ?_⟩
  rw[roundsIn_succ]
  refine g r C a hH hro hR hs hro2 _ fun a' C' hd hH' hxt hR' hs' => ?_
  have hq:=hQ a' C' hd (Kept.of hR hxt) hH' (hx0.trans hxt) hR' hs'
  cases x with
  | normal=>exact absurd rfl hx
  | exit id=>exact hq
  | ret=>exact hq
 | @go S S1 H H1 K g ok _ ih =>
  obtain ⟨n,ih⟩:=ih
  refine ⟨n+1,fun r C0 C a hH hro hR hs hro2 h0 hr0 hx0 Q hQ => ?_⟩
  rw[roundsIn_succ]
  refine g r C a hH hro hR hs hro2 _ fun a' C' hdf hH' hxt hR' hs' => ?_
  show Code.roundsIn (Fr r) 0 P b Q (n+1) a' C'.w
  subst hH'
  obtain ⟨hg,hk⟩:=gcOk_gc ok
  have kp1:=Kept.of hR hxt
  have hro':C'.ro=0:=by rw[hxt.ro]; exact hro
  refine ih r C0 (C'.gc K) a' rfl hro' (hR'.gc hg (by rw[hro']; exact Nat.zero_le _)) (hs'.gc hg) (show RoundOK r C'.w from hro2.mono hxt) h0 hr0 ((hx0.trans hxt).gc hg (by rw[h0]; exact hk) hr0) Q fun a2 C2 hd2 kp2 hH2 hx2 hR2 hs2 => ?_
  exact hQ a2 C2 (hdf.trans' hxt.size kp2 hd2) (fun b d h=>kp2 b d (kp1 b d h)) hH2 hx2 hR2 hs2
theorem loopG {P:Program} {b:Code} {x:PX} {S S':List PV} {H H':List Row} (hx:x ≠ .normal) (hr:RndsG P b H.length x S' H' S H):WpTo P (.loop b) 0 S H x S' H':=by
 obtain ⟨n,hn⟩:=roundsG hx hr
 intro r C a hH hro hR hs hro2 Q hQ
 exact wpIn_loop_rounds (n+1) (hn r C C a hH hro hR hs hro2 (by rw[hH]) hro (.refl C) Q fun a' C' hd _ hH' hx' hR' hs'=>hQ a' C' hd hH' hx' hR' hs')
noncomputable def runG (P:Program) (E:Ad) (n:Nat) (f:FuncId) (b:Code) (n0:Nat) (l l':List Tmp) (K:List PV->List Row->List Nat) (S:List PV) (H:List Row):Option (PX × List PV × List Row):=
 execK P E n 0 f b S H fun x S1 H1 =>
  match x with
  | .normal=>need (gcOk n0 (K S1 H1) H1) (some (.normal,(keepS (some l) S1).map (ren (K S1 H1)),gcH (K S1 H1) H1))
  | .exit i=>some (.exit i,keepS (some l') S1,H1)
  | .ret=>some (.ret,keepS (some l') S1,H1)
theorem runG_go {P:Program} {E:Ad} (hE:Ab P E.env) {n:Nat} {f:FuncId} {b:Code} {n0:Nat} {l l':List Tmp} {K:List PV->List Row->List Nat} {S S2 S':List PV} {H H2 H':List Row} {x:PX} (hb:SubCode P f b)
  (g:runG P E n f b n0 l l' K S H=some (.normal,S2,H2)) (k:RndsG P b n0 x S' H' S2 H2):RndsG P b n0 x S' H' S H:=by
 obtain ⟨x1,S1,H1,h1,h2⟩:=execK_ref n _ _ _ _ _ _ _ g
 have hw:=exec_ok hE n _ _ _ _ _ _ _ _ h1 hb
 cases x1 with
 | normal =>
  obtain ⟨h3,h4⟩:=Ae h2
  cases h4
  exact .go (wpTo_keep (some l) hw) h3 k
 | exit i=>cases h2
 | ret=>cases h2
theorem runG_stop {P:Program} {E:Ad} (hE:Ab P E.env) {n:Nat} {f:FuncId} {b:Code} {n0:Nat} {l l':List Tmp} {K:List PV->List Row->List Nat} {S S':List PV} {H H':List Row} {x:PX} (hb:SubCode P f b) (hx:x ≠ .normal)
  (g:runG P E n f b n0 l l' K S H=some (x,S',H')):RndsG P b n0 x S' H' S H:=by
 obtain ⟨x1,S1,H1,h1,h2⟩:=execK_ref n _ _ _ _ _ _ _ g
 have hw:=exec_ok hE n _ _ _ _ _ _ _ _ h1 hb
 cases x1 with
 | normal=>obtain ⟨_,h4⟩:=Ae h2; cases h4; exact absurd rfl hx
 | exit i=>cases h2; exact .stop (wpTo_keep (some l') hw)
 | ret=>cases h2; exact .stop (wpTo_keep (some l') hw)
end Go.Hx
/- Hx: the contract of a sort of ints on a row. -/
namespace Go.Hx
open Go.Sort Go.Shelf Go.RowKit Go.Proofs

def nums (es:List PV):List Int:=es.map fun e=>(e.cellAt 0).getI
def srtI (es:List PV):List PV:=((nums es).mergeSort fun x y=>decide (x<=y)).map fun n=>.val (.int .i64 n)
theorem srtI_length (es:List PV):(srtI es).length=es.length:=by simp[srtI,nums]

theorem wt_int {P:Program} {t:TypeId} (hk:kinds P t=[.int .i64]) {e:PV} (h:wt P t e=true):∃ n,e.cells=[.val (.int .i64 n)]:=by
 simp only[wt,hk,Bool.and_eq_true] at h
 have h1:=h.1
 match hc:e.cells,h1 with
 | [p],h1 =>
  simp only[wtcs,Bool.and_true] at h1
  cases p with
  | val v =>
   cases v with
   | int k n=>simp only[wtc,beq_iff_eq] at h1; subst h1; exact ⟨n,rfl⟩
   | _=>simp[wtc] at h1
  | _=>simp[wtc] at h1
 | [],h1=>simp[wtcs] at h1
 | _::_::_,h1=>simp[wtcs] at h1

theorem heap_put {α:Type} [Inhabited α] (enc:α->Value) (w:World) (n b off:Nat) (d:Array α) (os:Array Obj) {x:Nat} (hx:x<w.heap.size):
  (grow (putRow enc (Go.Sort.ahead w n) b off d) os).heap[x]? = if x=b then (w.heap[x]?).map (onCells (putCells enc off d)) else w.heap[x]?:=by
 show ((w.heap.modify b (onCells (putCells enc off d)))++os)[x]? = _
 rw[Array.getElem?_append_left (by simpa using hx),Array.getElem?_modify]
 by_cases h:b=x
 ·rw[if_pos h,if_pos h.symm]
 ·rw[if_neg h,if_neg (fun e=>h e.symm)]

theorem sort_turn {P:Program} {C:Ctx} (hR:RH P C) {r:Row} (hH:C.H=[r]) (hlive:r.live=true) (hro:C.ro=0) {b:Nat} (hb:C.ρ 0=some b) (hs:r.s=1) (hk:kinds P r.t=[.int .i64]) (hc1:P.cellsOf r.t=1)
  (n:Nat) (os:Array Obj) (zs:List Int) (hz:zs.length=r.es.length):
  ∃ C',C'.w=grow (putRow (Value.int .i64) (Go.Sort.ahead C.w n) b 0 zs.toArray) os/\Turn P C C' [{ r with es:=zs.map fun n=>.val (.int .i64 n) }]:=by
 have hrow:C.row? 0=some r:=by unfold Ctx.row? rowAt; rw[hH]; simp[hlive]
 have hB:=hR.blk 0 b r hb hrow
 obtain ⟨c,fr,cv,m1,m2,m3,m4⟩:=hB.mem
 have hlt:=hB.lt
 have hheap:=fun {x:Nat} (hx:x<C.w.heap.size)=>heap_put (Value.int .i64) C.w n b 0 zs.toArray os hx
 generalize hw':grow (putRow (Value.int .i64) (Go.Sort.ahead C.w n) b 0 zs.toArray) os=w' at hheap
 have hsz:C.w.heap.size<=w'.heap.size:=by
  rw[<- hw']
  show _<=((C.w.heap.modify b _)++os).size
  simp
 have hnew:w'.heap[b]? = some (.cells (putCells (Value.int .i64) 0 zs.toArray c) r.t fr):=by
  rw[hheap hlt,if_pos rfl,m1]; rfl
 have hps:∀ c:Array Value,(putCells (Value.int .i64) 0 zs.toArray c).size=c.size:=fun c=>by simp[putCells]
 generalize hr':({ r with es:=zs.map fun n=>PV.val (.int .i64 n) }:Row)=r'
 have q1:r'.s=r.s:=by rw[<- hr']
 have q2:r'.t=r.t:=by rw[<- hr']
 have q3:r'.nl=r.nl:=by rw[<- hr']
 have q4:r'.es=zs.map fun n=>PV.val (.int .i64 n):=by rw[<- hr']
 have q5:r'.live=true:=by rw[<- hr']; exact hlive
 have q7:r'.fz=r.fz:=by rw[<- hr']
 have q6:r'.es.length=r.es.length:=by rw[q4,List.length_map,hz]
 have hrow':∀ x q,rowAt [r'] x=some q->x=0/\q=r':=fun x q h=>by
  have hx:=rowAt_lt h
  simp only[List.length_singleton,Nat.lt_one_iff] at hx
  subst hx
  unfold rowAt at h
  simp only[List.getElem?_cons_zero,q5,if_true] at h
  exact ⟨rfl,(Option.some.inj h).symm⟩
 have hold:∀ b',b'<C.w.heap.size->b' ≠ b->w'.heap[b']? = C.w.heap[b']?:=fun b' h1 h2=>by rw[hheap h1,if_neg h2]
 have hx:Ext C { C with H:=[r'],w:=w' }:=by
  refine ⟨by show w'.os=_; rw[<- hw']; rfl,by show w'.tape=_; rw[<- hw']; rfl,by show w'.output=_; rw[<- hw']; rfl,hsz,fun b' h1 h2=>hold b' h1 fun e=>h2 ⟨0,by rw[hro]; exact Nat.le_refl _,by rw[e]; exact hb⟩,fun b' c' e fr' h => ?_,by rw[hH]; exact Nat.le_refl _,fun x r2 hxl h2 => ?_,fun _ h=>.inl h,fun _ h=>.inl h,rfl,rfl,fun x hx=>by rw[hro] at hx; omega,fun x r2 info h1 h2 h3 => ?_,fun b' rec h => ?_⟩
  ·by_cases he:b'=b
   ·subst he
    rw[m1] at h; cases h
    exact ⟨_,_,hnew,hps _⟩
   ·exact ⟨c',fr',by show w'.heap[b']? = _; rw[hold b' (Array.getElem?_eq_some_iff.1 h).1 he]; exact h,rfl⟩
  ·obtain ⟨rfl,rfl⟩:=hrow' x r2 h2
   exact ⟨r,hrow,q1.symm,q2.symm,by rw[q6]; exact Nat.le_refl _,fun _=>⟨q3.symm,fun _ h=>h⟩⟩
  ·have hx0:x=0:=by
    have:=(List.getElem?_eq_some_iff.1 h1).1
    rw[hH] at this; simpa using this
   subst hx0
   rw[hH] at h1
   simp only[List.getElem?_cons_zero,Option.some.injEq] at h1
   subst h1
   rw[hlive] at h3; cases h3
  ·by_cases he:b'=b
   ·subst he; rw[m1] at h; cases h
   ·exact ⟨rec,by show w'.heap[b']? = _; rw[hold b' (Array.getElem?_eq_some_iff.1 h).1 he]; exact h⟩
 refine ⟨{ C with H:=[r'],w:=w' },rfl,rfl,hx,hR.inj,fun x b' h => ?_,fun x b' r2 h1 h2 => ?_,by show C.ro<=1; omega,hR.nfo,fun b' h=>Nat.lt_of_lt_of_le (hR.fol b' h) hsz,fun x b' r2 info h1 h2 h3 h4 => ?_,hR.glb.mono hx⟩
 ·have hx0:x=0:=by
   have:=hR.ρ_lt h
   rw[hH] at this; simpa using this
  subst hx0
  refine .inl ⟨r',?_⟩
  show rowAt [r'] 0=some r'
  unfold rowAt
  simp[q5]
 ·obtain ⟨rfl,rfl⟩:=hrow' x r2 h2
  have:b'=b:=Option.some.inj (h1.symm.trans hb)
  subst this
  refine ⟨by rw[q1,q2]; exact hB.sz,⟨_,fr,fun k _=>.int .i64 (zs.getD k 0),by rw[q2]; exact hnew,fun hz off ho=>m2 (by rw[<- q7]; exact hz) off (by rw[hps] at ho; exact ho),by rw[q6,q1,hps]; exact m3,fun k e j p h1 h2 => ?_⟩,fun e he => ?_,fun _ e he => ?_⟩
  ·rw[q4,List.getElem?_map,Option.map_eq_some_iff] at h1
   obtain ⟨z,hz1,rfl⟩:=h1
   have hkl:=(List.getElem?_eq_some_iff.1 hz1).1
   have hj:j=0:=by
    have:=(List.getElem?_eq_some_iff.1 h2).1
    simpa [PV.cells] using this
   subst hj
   simp only[PV.cells,List.getElem?_cons_zero,Option.some.injEq] at h2
   subst h2
   have hg:zs.getD k 0=z:=by rw[List.getD_eq_getElem?_getD,hz1]; rfl
   dsimp only; rw[hg]
   refine ⟨?_,.val⟩
   rw[q1,hs,Nat.mul_one,Nat.add_zero]
   have hkc:k<c.size:=by rw[hs,Nat.mul_one] at m3; omega
   unfold putCells
   rw[Array.getElem?_mapIdx,Array.getElem?_eq_getElem hkc,Option.map_some,if_pos ⟨Nat.zero_le _,by simpa using hkl⟩]
   congr 1
   congr 1
   simp only[Nat.sub_zero,List.getElem!_toArray]
   rw[getElem!_def,hz1]
  ·rw[q4,List.mem_map] at he
   obtain ⟨z,_,rfl⟩:=he
   rw[q1,hs]; rfl
  ·rw[q4,List.mem_map] at he
   obtain ⟨z,_,rfl⟩:=he
   rw[q2]
   simp[wt,hk,wtcs,wtc,hc1,PV.cells]
 ·have hx0:x=0:=by
   have:=hR.ρ_lt h1
   rw[hH] at this; simpa using this
  subst hx0
  change [r'][0]? = some r2 at h2
  simp only[List.getElem?_cons_zero,Option.some.injEq] at h2
  subst h2
  rw[q5] at h4; cases h4

def sortC (t:TypeId):List PV->List Row->Option (DT (PV × List Row))
 | [.sl 0 n 0 len],[r] =>
  match r.t==t&&r.s==1&&r.bv&&r.live && !r.fz with
  | true=>some (.br (r.es.length==n&&len==n&&decide (n<4611686018427387904)) (.leaf (.tup [],[{ r with es:=srtI r.es }])) .no)
  | false=>none
 | _,_=>none
theorem sortC_ok {P:Program} {ρ:Ren} (Ly:SlLaysM.n5 P ρ) {t:TypeId} (hk:kinds P t=[.int .i64]) (hc1:P.cellsOf t=1) (args:List PV) (H:List Row) (d:DT (PV × List Row)) (p:PV) (H':List Row)
  (h1:sortC t args H=some d) (h2:d.run=some (p,H')):RCall P 0 (ρ.f 5) args H p H':=by
 unfold sortC at h1
 split at h1
 ·rename_i n len r
  split at h1
  ·rename_i hb
   simp only[Bool.and_eq_true,beq_iff_eq,Bool.not_eq_true'] at hb
   obtain ⟨⟨⟨⟨ht,hs⟩,hbv⟩,hlive⟩,hfz⟩:=hb
   cases h1
   have h3:(r.es.length==n&&len==n&&decide (n<4611686018427387904))=true/\(p,H')=(PV.tup [],[{ r with es:=srtI r.es }]):=by
    cases hc:(r.es.length==n&&len==n&&decide (n<4611686018427387904)) with
    | true=>rw[hc] at h2; exact ⟨rfl,(Option.some.inj h2).symm⟩
    | false=>rw[hc] at h2; cases h2
   obtain ⟨h3,h4⟩:=h3
   obtain ⟨rfl,rfl⟩:=Prod.mk.inj h4
   simp only[Bool.and_eq_true,beq_iff_eq,decide_eq_true_eq] at h3
   obtain ⟨⟨h5,h6⟩,h7⟩:=h3
   subst h6
   subst ht
   intro C hH hro hR Vs hv
   have hrow:C.row? 0=some r:=by unfold Ctx.row? rowAt; rw[hH]; simp[hlive]
   have hVs:Vs = #[Vs.getD 0 undef]:=by
    have:=hv.1
    apply Array.ext
    ·simpa using this
    ·intro i hi1 hi2
     have:i=0:=by simpa using hi2
     subst this
     simp[Array.getD,hi1]
   have hV:=hv.2 0 (.sl 0 len 0 len) (Vs.getD 0 undef) rfl (by rw[hVs]; simp)
   generalize Vs.getD 0 undef=V at hVs hV
   subst hVs
   cases hV with
   | sl hV hi hn hh =>
    obtain ⟨_,a,cap,rfl,hlc,hat⟩:=hh r hrow h5
    by_cases h0:r.es=[]
    ·have hl0:len=0:=by rw[<- h5,h0]; rfl
     subst hl0
     refine (AnyM.slices_Sort_int_none Ly a cap C.w).mono ?_
     rintro e w' ⟨rfl,rfl⟩
     refine ⟨_,C,rfl,rfl,?_,.refl C,hR,.tup rfl (fun j c v h=>by simp at h)⟩
     rw[hH]
     have:srtI r.es=r.es:=by rw[h0]; simp[srtI,nums]
     rw[this]
    ·have hpos:0<r.es.length:=List.length_pos_iff.2 h0
     unfold SlAt at hat
     split at hat
     ·omega
     ·obtain ⟨b,g1,g2,_⟩:=hat
      subst g2
      have hB:=hR.blk 0 b r g1 hrow
      obtain ⟨c,fr,cv,m1,m2,m3,m4⟩:=hB.mem
      have hnl:(nums r.es).length=r.es.length:=by simp[nums]
      have hcell:∀ j,j<r.es.length->c[j]? = some (.int .i64 ((nums r.es)[j]!)):=fun j hj=>by
       obtain ⟨z,hz⟩:=wt_int hk (hB.typed hbv _ (List.getElem_mem hj))
       obtain ⟨g3,g4⟩:=m4 j r.es[j] 0 (.val (.int .i64 z)) (List.getElem?_eq_getElem hj) (by rw[hz]; rfl)
       rw[hs,Nat.mul_one,Nat.add_zero] at g3
       rw[g3]
       have:cv j 0=.int .i64 z:=by
        generalize cv j 0=v at g4
        cases g4; rfl
       rw[this]
       have hg:(nums r.es)[j]! = z:=by
        rw[getElem!_pos _ j (by rw[hnl]; exact hj)]
        simp[nums,PV.cellAt,hz,PV.getI]
       rw[hg]
      have hcs:r.es.length<=c.size:=by rw[hs,Nat.mul_one] at m3; exact m3
      have hHolds:Holds (Value.int .i64) C.w b (0*r.s) (nums r.es).toArray:=by
       intro j hj
       have hj':j<r.es.length:=by simpa [hnl] using hj
       rw[Nat.zero_mul,Nat.zero_add]
       refine ⟨?_,?_⟩
       ·simp only[World.cell?,m1]
        rw[hcell j hj',List.getElem!_toArray]; rfl
       ·have:=m2 hfz j (by omega)
        simp only[World.frozen?,m1]
        exact this
      have hl:(nums r.es).length=len:=by rw[hnl]; exact h5
      have key:=AnyM.slices_Sort_int Ly b (0*r.s) cap (nums r.es) C.w hHolds hB.lt (by rw[hl]; exact h7)
      rw[hl] at key
      refine key.mono ?_
      rintro e w' ⟨rfl,n,os,rfl⟩
      obtain ⟨C',e1,e2⟩:=sort_turn hR hH hlive hro g1 hs hk hc1 n os ((nums r.es).mergeSort fun x y=>decide (x<=y)) (by rw[List.length_mergeSort,hnl])
      refine ⟨_,C',rfl,by rw[e1,Nat.zero_mul],e2.H,e2.ext,e2.rh,.tup rfl (fun j c v h=>by simp at h)⟩
  ·cases h1
 ·cases h1
def Ad.addSort (E:Ad) (k:FuncId) (t:TypeId):Ad:=E.addR k (sortC t)
theorem Ab.addSort {P:Program} {E:Ad} (hE:Ab P E.env) {ρ:Ren} (Ly:SlLaysM.n5 P ρ) {t:TypeId} (hk:kinds P t=[.int .i64]) (hc1:P.cellsOf t=1) (hent:Enters P (ρ.f 5)):Ab P (E.addSort (ρ.f 5) t).env:=
 hE.addR hent fun args H d p H' h1 h2=>sortC_ok Ly hk hc1 args H d p H' h1 h2
end Go.Hx
/- Hx: a call by contract that leaves a dead row behind: so later contracts can tell by the number of rows which call of a function they are asked for. -/
namespace Go.Hx
end Go.Hx
/- Hx: a call by contract by value, where the rows that it was given are let go: what it hands back may lie in them. -/
namespace Go.Hx
end Go.Hx
/- Engine: the rounds of one loop may be computed in several environments; a loop's contract may be said in a more special form. -/
namespace Go.Hx
theorem loopWv {P:Program} {n:Nat} {f:FuncId} {b:Code} (l l':List Tmp) {σ:Type} {sel:List Bool} (emb:σ->List PV × List Row) {get:List PV->List Row->Option σ}
  (hget:∀ S H s,get S H=some s->S=(emb s).1/\H=(emb s).2) {pre:σ->Bool} (m:σ->Nat) {fin:σ->DT (PX × List PV × List Row)}
  (hstep:∀ s r,pre s=true->(fin s).run=some r->r.1 ≠ .normal/\∃ E:Ad,Ab P E.env/\(Al P E n f b l l' (emb s).1 (emb s).2=some r \/
   ∃ s',Al P E n f b l l' (emb s).1 (emb s).2=some (.normal,emb s')/\pre s'=true/\m s'<m s/\(fin s').run=some r)):
  SubCode P f (.loop b)->∀ (ro:Nat) (S:List PV) (H:List Row) (d:DT (PX × List PV × List Row)) (x:PX) (S':List PV) (H':List Row),byModel sel get pre fin ro S H=some d->d.run=some (x,S',H')->WpTo P (.loop b) ro S H x S' H':=by
 intro hsub ro S H d x S' H' hc hd
 cases ro with
 | succ ro=>cases hc
 | zero =>
 change (match get S (nrmA sel H) with | some s=>some (DT.br (pre s) (fin s) DT.no) | none=>none)=some d at hc
 split at hc
 ·rename_i s hs
  obtain rfl:=Option.some.inj hc
  obtain ⟨e1,e2⟩:=hget _ _ _ hs
  have hp:pre s=true/\(fin s).run=some (x,S',H'):=by
   change (match pre s with | true=>(fin s).run | false=>DT.no.run)=_ at hd
   cases hq:pre s with
   | true=>rw[hq] at hd; exact ⟨rfl,hd⟩
   | false=>rw[hq] at hd; cases hd
  obtain ⟨hp,hr⟩:=hp
  clear hc hd hs
  have hbody:=hsub.sub (.loop .here)
  refine wpTo_nrmA sel ?_
  rw[e2,e1]
  clear e1 e2
  have hx:=(hstep s _ hp hr).1
  refine Rnds.loop hx ?_
  generalize hm:m s=k
  induction k using Nat.strongRecOn generalizing s with
  | _ k ih =>
   obtain ⟨E,hE,h⟩:=(hstep s _ hp hr).2
   rcases h with h1 | ⟨s',h1,h2,h3,h4⟩
   ·exact .stop (runB_sound hE hbody h1)
   ·exact .go (runB_sound hE hbody h1) (ih (m s') (by omega) s' h2 h4 rfl)
 ·cases hc
theorem Ab.addWv {P:Program} {E:Ad} (hE:Ab P E.env) {n:Nat} {k i:Nat} {fn:Func} {body b:Code} (hf:P.funcs[k]? = some fn) (hb:fn.body=some body) (h0:(loops body).filter (fun b=>rid b==i)=[b])
  (l l':List Tmp) (sel:List Bool) (sh:S1) {pre:LS->Bool} (m:LS->Nat) {fin:LS->DT (PX × List PV × List Row)}
  (hstep:∀ s r,pre s=true->(fin s).run=some r->r.1 ≠ .normal/\∃ E:Ad,Ab P E.env/\(Al P E n k b l l' (sh.put s).1 (sh.put s).2=some r \/
   ∃ s',Al P E n k b l l' (sh.put s).1 (sh.put s).2=some (.normal,sh.put s')/\pre s'=true/\m s'<m s/\(fin s').run=some r)):
  Ab P (E.addW k i l sel sh pre fin).env:=
 hE.addL2 hf hb h0 fun hs ro S H d x S' H'=>loopWv l l' sh.put S1.get_put m hstep hs ro S H d x S' H'
end Go.Hx
/- Hx: what a reader reads of an argument is a value of the machine. -/
namespace Go.Hx
open Go.ChangeShapes Go.WideShapes Go.RowKit

inductive Fit:PV->Prop
 | int {k:IntKind} {n:Int} (h:(Lit.int k n).wf=true):Fit (.val (.int k n))
 | bool {b:Bool}:Fit (.val (.bool b))
 | str {s:ByteArray} (h:s.size<=maxLen):Fit (.val (.string s))
 | Ac {f:Bool} {t:TypeId} {es:List PV} (hl:es.length<=maxLen) (h:∀ e,e ∈ es->∀ c,c ∈ e.cells->Fit c):Fit (.Ac f t es)

def Ctx.of (w:World):Ctx:={ ρ:=fun _=>none,H:=[],w:=w }
theorem glb_none {P:Program} {C:Ctx} (h:(List.range P.globals.size).all (fun g => !isLaid P g)=true):Glb P C:=fun g hl=>by
 have hg:g<P.globals.size:=by
  unfold isLaid at hl
  split at hl
  ·rename_i G hG; exact (Array.getElem?_eq_some_iff.1 hG).1
  ·cases hl
 have:=List.all_eq_true.1 h g (List.mem_range.2 hg)
 rw[hl] at this; cases this
theorem of_rh (P:Program) (w:World) (hg:Glb P (Ctx.of w)):RH P (Ctx.of w):=
 ⟨fun _ _ _ h=>(by cases h),fun _ _ h=>(by cases h),fun _ _ _ h=>(by cases h),Nat.le_refl _,fun _ _ h=>(by cases h),fun _ (h:False)=>h.elim,fun _ _ _ _ h=>(by cases h),hg⟩
theorem of_ban (w:World) (b:Nat):¬ (Ctx.of w).ban b:=by
 rintro (⟨i,hi⟩ | hf)
 ·cases hi
 ·exact hf

theorem wtcs_append:∀ {k1 k2:List Kind} {p1 p2:List PV},wtcs k1 p1=true->wtcs k2 p2=true->wtcs (k1++k2) (p1++p2)=true
 | [],_,[],_,_,h=>h
 | [],_,_::_,_,h,_=>by simp[wtcs] at h
 | _::_,_,[],_,h,_=>by simp[wtcs] at h
 | k::ks,k2,p::ps,p2,h,g=>by
  simp only[wtcs,Bool.and_eq_true,List.cons_append] at h ⊢
  exact ⟨h.1,wtcs_append h.2 g⟩

def CellsOk (P:Program) (w:World) (ks:List Kind) (cs:List Value) (ps:List PV):Prop:=
 ps.length=cs.length/\wtcs ks ps=true/\(∀ (j:Nat) p v,ps[j]? = some p->cs[j]? = some v->RV P (Ctx.of w) p v)/\∀ p,p ∈ ps->Fit p
theorem CellsOk.app {P:Program} {w:World} {k1 k2:List Kind} {c1 c2:List Value} {p1 p2:List PV} (h:CellsOk P w k1 c1 p1) (g:CellsOk P w k2 c2 p2):CellsOk P w (k1++k2) (c1++c2) (p1++p2):=by
 refine ⟨by simp[h.1,g.1],wtcs_append h.2.1 g.2.1,fun j p v hp hv => ?_,fun p hp => ?_⟩
 ·rw[List.getElem?_append] at hp hv
  rw[<- h.1] at hv
  split at hp
  ·rename_i hj; rw[if_pos hj] at hv; exact h.2.2.1 j p v hp hv
  ·rename_i hj; rw[if_neg hj] at hv; exact g.2.2.1 _ p v hp hv
 ·rcases List.mem_append.1 hp with hp | hp
  ·exact h.2.2.2 p hp
  ·exact g.2.2.2 p hp

def cont:List (Nat × Nat × List Kind)->Nat->Nat->Bool
 | [],o,n=>o==n
 | (o',s,ks)::l,o,n=>o'==o&&ks.length==s&&cont l (o+s) n
theorem segs_ok {P:Program} {w:World} {cs:List Value}:∀ (l:List (Nat × Nat × List Kind)) (o:Nat),cont l o cs.length=true->(∀ x,x ∈ l->∃ ps,CellsOk P w x.2.2 ((cs.drop x.1).take x.2.1) ps) ->
  ∃ ps,CellsOk P w (l.flatMap fun x=>x.2.2) (cs.drop o) ps
 | [],o,h,_=>by
  simp only[cont,beq_iff_eq] at h
  subst h
  exact ⟨[],by simp,rfl,fun j p v hp=>(by simp at hp),fun p hp=>(by cases hp)⟩
 | (o',s,ks)::l,o,h,hx=>by
  simp only[cont,Bool.and_eq_true,beq_iff_eq] at h
  obtain ⟨⟨rfl,hs⟩,hc⟩:=h
  obtain ⟨p1,h1⟩:=hx (o',s,ks) (by simp)
  obtain ⟨p2,h2⟩:=segs_ok l (o'+s) hc fun x hm=>hx x (by simp[hm])
  refine ⟨p1++p2,?_⟩
  have hsplit:cs.drop o'=(cs.drop o').take s++cs.drop (o'+s):=by
   rw[<- List.drop_drop]; exact (List.take_append_drop s (cs.drop o')).symm
  rw[hsplit]
  exact h1.app h2

def flatB (P:Program):Nat->Nat->TypeId->Bool
 | 0,_,_=>false
 | _+1,0,_=>false
 | n+1,d+1,t =>
  match P.underlying t with
  | some (.int _)=>true
  | some .bool=>true
  | some .string=>true
  | some (.slice e)=>flatB P n 12 e&&decide (0<P.cellsOf e)&&(kinds P e).length==P.cellsOf e
  | some (.struct fs)=>fs.toList.all (fun f=>flatB P n d f.type)&&cont (fs.toList.map fun f=>(f.offset,P.cellsOf f.type,kindsAt P d f.type)) 0 (P.cellsOf t)
  | some (.array m e)=>flatB P n d e&&cont ((List.range m).map fun i=>(i*P.cellsOf e,P.cellsOf e,kindsAt P d e)) 0 (P.cellsOf t)
  | _=>false

def mkE (P:Program) (t:TypeId) (ps:List PV):PV:=if Aj P t then .agg ps else ps.getD 0 .any
theorem mkE_cells {P:Program} {t:TypeId} {ks:List Kind} {ps:List PV} (h:wtcs ks ps=true) (hl:ks.length=P.cellsOf t) (h1:Aj P t=false->P.cellsOf t=1):(mkE P t ps).cells=ps:=by
 unfold mkE
 split
 ·rfl
 ·rename_i ha
  have hl1:=h1 (by simpa using ha)
  have hp:=wtcs_length h
  match ps,hp with
  | [p],_ =>
   match ks,h with
   | [k],h =>
    simp only[wtcs,Bool.and_true] at h
    show PV.cells p=[p]
    unfold wtc at h
    split at h <;> first | rfl | cases h
  | [],hp=>simp at hp; omega
  | _::_::_,hp=>simp at hp; omega

theorem cells?_get {w:World} {a:Addr} {n:Nat} {cs:List Value} (h:w.cells? 0 a n=some cs):cs.length=n/\∀ (x:Nat) v,cs[x]? = some v->w.cell? (a.add x)=some v:=by
 obtain ⟨h1,h2,h3⟩:=World.cells?_some h
 refine ⟨by simpa using h2,fun x v hx => ?_⟩
 have hlt:x<cs.length:=(List.getElem?_eq_some_iff.1 hx).1
 have:=h3 x (by omega)
 rw[this,<- hx]

section
variable {H:Type} {enc:TypeId × Value->H} {P:Program} {w:World} {sp:Nat->Bool} {held:Bool}
theorem trod_int1 {k:IntKind} {t:TypeId} (hu:P.underlying t=some (.int k)) {fuel:Nat} {cs:List Value} {x:DataW H × List MemPlace} (hx:DataW.trod enc P w 0 sp held fuel t cs=some x):∃ n,cs=[.int k n]/\(Lit.int k n).wf=true:=by
 cases fuel with
 | zero=>simp[DataW.trod] at hx
 | succ m =>
  unfold DataW.trod at hx
  rw[hu] at hx
  split at hx <;> simp_all
theorem trod_bool1 {t:TypeId} (hu:P.underlying t=some .bool) {fuel:Nat} {cs:List Value} {x:DataW H × List MemPlace} (hx:DataW.trod enc P w 0 sp held fuel t cs=some x):∃ b,cs=[.bool b]:=by
 cases fuel with
 | zero=>simp[DataW.trod] at hx
 | succ m =>
  unfold DataW.trod at hx
  rw[hu] at hx
  split at hx <;> simp_all
theorem trod_string1 {t:TypeId} (hu:P.underlying t=some .string) {fuel:Nat} {cs:List Value} {x:DataW H × List MemPlace} (hx:DataW.trod enc P w 0 sp held fuel t cs=some x):∃ s:ByteArray,cs=[.string s]/\s.size<=maxLen:=by
 cases fuel with
 | zero=>simp[DataW.trod] at hx
 | succ m =>
  unfold DataW.trod at hx
  rw[hu] at hx
  split at hx <;> simp_all
theorem trod_cells:∀ (n d:Nat) (t:TypeId),flatB P n d t=true->∀ (fuel:Nat) (cs:List Value) (x:DataW H × List MemPlace),DataW.trod enc P w 0 sp held fuel t cs=some x->∃ ps,CellsOk P w (kindsAt P d t) cs ps
 | 0,_,_,h=>fun _ _ _ _=>by simp[flatB] at h
 | n+1,0,_,h=>fun _ _ _ _=>by simp[flatB] at h
 | n+1,d+1,t,h=>by
  intro fuel cs x hx
  have scalar:∀ {p:PV} {v:Value} {k:Kind},cs=[v]->kindsAt P (d+1) t=[k]->wtc k p=true->RV P (Ctx.of w) p v->Fit p->∃ ps,CellsOk P w (kindsAt P (d+1) t) cs ps:=by
   intro p v k hc hk hw hr hf
   subst hc
   rw[hk]
   exact ⟨[p],rfl,by simp[wtcs,hw],fun j q u h1 h2=>by
    match j with
    | 0=>simp at h1 h2; subst h1; subst h2; exact hr
    | j+1=>simp at h1
    ,fun q hq=>(by simp at hq; subst hq; exact hf)⟩
  unfold flatB at h
  split at h
  ·rename_i k hu
   obtain ⟨n,hc,hwf⟩:=trod_int1 hu hx
   exact scalar (k:=.int k) hc (by simp[kindsAt,hu]) (by simp[wtc]) .val (.int hwf)
  ·rename_i hu
   obtain ⟨b,hc⟩:=trod_bool1 hu hx
   exact scalar (k:=.bool) hc (by simp[kindsAt,hu]) rfl .val .bool
  ·rename_i hu
   obtain ⟨b,hc,hs⟩:=trod_string1 hu hx
   exact scalar (k:=.str) hc (by simp[kindsAt,hu]) rfl .val (.str hs)
  ·rename_i e hu
   simp only[Bool.and_eq_true,decide_eq_true_eq,beq_iff_eq] at h
   obtain ⟨⟨he,hpos⟩,hlen⟩:=h
   have hk:kindsAt P (d+1) t=[.sl e]:=by simp[kindsAt,hu]
   rcases DataW.trod_slice hu hx with ⟨rfl,_⟩ | ⟨a,len,cap,elems,rest,m,_,rfl,_,_,hl,hm,hlen2,hel,_,_⟩
   ·refine scalar rfl hk (p:=.Ac false e []) (by simp[wtc]) ?_ (.Ac (Nat.zero_le _) fun e' he'=>by cases he')
    exact .Ac (es:=[]) 0 0 (fun _ _=>undef) (Nat.le_refl _) (fun h=>by cases h) (fun h=>by simp at h) (fun x e' j p h=>by simp at h) (fun x e' j p h=>by simp at h) (fun e' h=>by cases h)
   ·-- the elements
    have one1:Aj P e=false->P.cellsOf e=1:=by
     intro ha
     have:∀ D,flatB P n 12 e=true->Aj P e=false->(kindsAt P 12 e).length=D->D=1:=by
      intro D hf ha hD
      cases n with
      | zero=>simp[flatB] at hf
      | succ n' =>
       unfold flatB at hf
       unfold Aj at ha
       split at hf <;> rename_i hu2 <;> simp_all [kindsAt]
     exact this _ he ha (by rw[<- hlen]; rfl)
    have each:∀ i,i<len->∃ (cs':List Value) (ps:List PV),w.cells? 0 (a.add (i*P.cellsOf e)) (P.cellsOf e)=some cs'/\CellsOk P w (kindsAt P 12 e) cs' ps:=by
     intro i hi
     have h1:=hel i hi
     have h2:elems[i]? = some (elems[i]'(by omega)):=List.getElem?_eq_getElem _
     rw[h2] at h1
     obtain ⟨cs',g1,g2⟩:=Option.bind_eq_some_iff.1 h1
     obtain ⟨ps,g3⟩:=trod_cells n 12 e he _ _ _ g2
     exact ⟨cs',ps,g1,g3⟩
    have pick:∃ (F:Nat->List Value) (G:Nat->List PV),∀ i,i<len->w.cells? 0 (a.add (i*P.cellsOf e)) (P.cellsOf e)=some (F i)/\CellsOk P w (kindsAt P 12 e) (F i) (G i):=by
     have:∀ i,∃ y:List Value × List PV,i<len->w.cells? 0 (a.add (i*P.cellsOf e)) (P.cellsOf e)=some y.1/\CellsOk P w (kindsAt P 12 e) y.1 y.2:=by
      intro i
      by_cases hi:i<len
      ·obtain ⟨c,p,g1,g2⟩:=each i hi; exact ⟨(c,p),fun _=>⟨g1,g2⟩⟩
      ·exact ⟨([],[]),fun h=>absurd h hi⟩
     obtain ⟨f,hf⟩:=Classical.axiomOfChoice this
     exact ⟨fun i=>(f i).1,fun i=>(f i).2,hf⟩
    obtain ⟨F,G,hFG⟩:=pick
    have hcells:∀ i,i<len->(mkE P e (G i)).cells=G i:=fun i hi=>mkE_cells (hFG i hi).2.2.1 hlen one1
    have hget:∀ (i:Nat) q,((List.range len).map fun i=>mkE P e (G i))[i]? = some q->i<len/\q=mkE P e (G i):=by
     intro i q hq
     simp only[List.getElem?_map,Option.map_eq_some_iff] at hq
     obtain ⟨j,hj,rfl⟩:=hq
     have hjl:i<len:=by
      rcases Nat.lt_or_ge i len with h | h
      ·exact h
      ·rw[List.getElem?_eq_none (by simpa using h)] at hj; cases hj
     rw[List.getElem?_range hjl] at hj
     cases hj
     exact ⟨hjl,rfl⟩
    have hspot:0<len->a.spot=none:=by
     intro h0
     obtain ⟨g1,g2⟩:=hFG 0 h0
     obtain ⟨q1,q2⟩:=cells?_get g1
     have hc0:(F 0)[0]? = some ((F 0)[0]'(by omega)):=List.getElem?_eq_getElem _
     have hz:=q2 0 _ hc0
     rw[Nat.zero_mul,show (a.add 0).add 0=a from rfl] at hz
     exact World.cell?_spot hz
    have hcell:∀ (i x:Nat) v,i<len->(F i)[x]? = some v->w.cell? ⟨a.block,a.off+i*P.cellsOf e+x,none⟩=some v:=by
     intro i x v hi hv
     have hs:=hspot (by omega)
     have:=(cells?_get (hFG i hi).1).2 x v hv
     obtain ⟨b,off,spot⟩:=a
     simp only at hs
     subst hs
     have ha:((⟨b,off,none⟩:Addr).add (i*P.cellsOf e)).add x=⟨b,off+i*P.cellsOf e+x,none⟩:=by
      unfold Addr.add
      split <;> split <;> simp_all
     rw[ha] at this
     exact this
    refine scalar rfl hk (p:=.Ac false e ((List.range len).map fun i=>mkE P e (G i))) (by simp[wtc]) ?_ (.Ac (by simp; omega) fun e' he' c hc => ?_)
    ·have hRV:RV P (Ctx.of w) (.Ac false e ((List.range len).map fun i=>mkE P e (G i))) (.slice (some a) ((List.range len).map fun i=>mkE P e (G i)).length cap):=by
      refine .Ac a.block a.off (fun i j=>(F i).getD j undef) (by simpa using hl) (fun h=>by cases h) (fun h0 => ?_) (fun i q j p hq hj => ?_) (fun i q j p hq hj => ?_) (fun q hq => ?_)
      ·have h0':0<len:=by simpa using h0
       have hs:=hspot h0'
       refine ⟨by obtain ⟨b,off,spot⟩:=a; simp only at hs; subst hs; rfl,of_ban w _,?_⟩
       obtain ⟨g1,g2⟩:=hFG 0 h0'
       have hc0:(F 0)[0]? = some ((F 0)[0]'(by rw[(cells?_get g1).1]; omega)):=List.getElem?_eq_getElem _
       have:=hcell 0 0 _ h0' hc0
       simp only[World.cell?] at this
       split at this
       ·rename_i hb; exact (Array.getElem?_eq_some_iff.1 hb).1
       ·cases this
      ·obtain ⟨hi,rfl⟩:=hget i q hq
       rw[hcells i hi] at hj
       have hjl:j<(F i).length:=by rw[<- (hFG i hi).2.1]; exact (List.getElem?_eq_some_iff.1 hj).1
       have hv:(F i)[j]? = some ((F i)[j]):=List.getElem?_eq_getElem hjl
       show w.cell? _=_
       rw[hcell i j _ hi hv]
       simp[List.getD,hv]
      ·obtain ⟨hi,rfl⟩:=hget i q hq
       rw[hcells i hi] at hj
       have hjl:j<(F i).length:=by rw[<- (hFG i hi).2.1]; exact (List.getElem?_eq_some_iff.1 hj).1
       have hv:(F i)[j]? = some ((F i)[j]):=List.getElem?_eq_getElem hjl
       have:=(hFG i hi).2.2.2.1 j p _ hj hv
       simpa [List.getD,hv] using this
      ·obtain ⟨i,hiq⟩:=List.getElem?_of_mem hq
       obtain ⟨hi,rfl⟩:=hget i q hiq
       simp only[wt,Bool.and_eq_true,beq_iff_eq]
       exact ⟨by rw[hcells i hi]; exact (hFG i hi).2.2.1,hlen⟩
     simpa using hRV
    ·obtain ⟨i,hiq⟩:=List.getElem?_of_mem he'
     obtain ⟨hi,rfl⟩:=hget i e' hiq
     rw[hcells i hi] at hc
     exact (hFG i hi).2.2.2.2 c hc
  ·rename_i fs hu
   simp only[Bool.and_eq_true,List.all_eq_true] at h
   obtain ⟨xs,m,_,_,hl,hxs,hf⟩:=DataW.trod_struct hu hx
   have:=segs_ok (P:=P) (w:=w) (cs:=cs) (fs.toList.map fun f=>(f.offset,P.cellsOf f.type,kindsAt P d f.type)) 0 (by rw[hl]; exact h.2) fun y hy => ?_
   ·obtain ⟨ps,hp⟩:=this
    refine ⟨ps,?_⟩
    have hk:kindsAt P (d+1) t=(fs.toList.map fun f=>(f.offset,P.cellsOf f.type,kindsAt P d f.type)).flatMap fun x=>x.2.2:=by
     simp only[kindsAt,hu,List.flatMap_map]
    rw[hk]
    simpa using hp
   ·simp only[List.mem_map] at hy
    obtain ⟨f,hfm,rfl⟩:=hy
    obtain ⟨i,hi⟩:=List.getElem?_of_mem hfm
    have hfi:fs[i]? = some f:=by simpa using hi
    have h1:=hf i f hfi
    have hil:i<xs.length:=by rw[hxs]; exact (Array.getElem?_eq_some_iff.1 hfi).1
    rw[List.getElem?_eq_getElem hil] at h1
    exact trod_cells n d f.type (h.1 f hfm) _ _ _ h1
  ·rename_i m e hu
   simp only[Bool.and_eq_true] at h
   obtain ⟨xs,mm,_,_,hl,hxs,hf⟩:=DataW.trod_array hu hx
   have:=segs_ok (P:=P) (w:=w) (cs:=cs) ((List.range m).map fun i=>(i*P.cellsOf e,P.cellsOf e,kindsAt P d e)) 0 (by rw[hl]; exact h.2) fun y hy => ?_
   ·obtain ⟨ps,hp⟩:=this
    refine ⟨ps,?_⟩
    have hk:kindsAt P (d+1) t=((List.range m).map fun i=>(i*P.cellsOf e,P.cellsOf e,kindsAt P d e)).flatMap fun x=>x.2.2:=by
     simp only[kindsAt,hu,List.flatMap_map]
     rw[List.flatten_eq_flatMap]
     clear hp hf hxs hx
     have:∀ (l:List Nat) (k:List Kind),(List.replicate l.length k).flatMap id=l.flatMap fun _=>k:=by
      intro l k
      induction l with
      | nil=>rfl
      | cons a l ih=>simp only[List.length_cons,List.replicate_succ,List.flatMap_cons,id,ih]
     have h2:=this (List.range m) (kindsAt P d e)
     rwa [List.length_range] at h2
    rw[hk]
    simpa using hp
   ·simp only[List.mem_map,List.mem_range] at hy
    obtain ⟨i,hi,rfl⟩:=hy
    have h1:=hf i hi
    rw[List.getElem?_eq_getElem (by rw[hxs]; exact hi)] at h1
    exact trod_cells n d e h.1 _ _ _ h1
  ·cases h
end
section
variable {H:Type} {enc:TypeId × Value->H} {P:Program} {w:World} {sp:Nat->Bool} {held:Bool} {base:Nat}
theorem arg_rv {t:TypeId} {v:Value} {d:DataW H} {p:List MemPlace} (hval:Value.okWide P w .any base t v) (h:DataW.Trod enc P w 0 sp held t v d p) (hf:flatB P 20 12 t=true):
  ∃ ps,wtcs (kinds P t) ps=true/\(∀ p,p ∈ ps->Fit p)/\RV P (Ctx.of w) (mkE P t ps) v:=by
 have hd:=h
 obtain ⟨fuel,hx⟩:=h
 obtain ⟨ps,h1,h2,h3,h4⟩:=trod_cells 20 12 t hf _ _ _ hx
 refine ⟨ps,h2,h4,?_⟩
 have scalar:v.cells.toList=[v]->Aj P t=false->RV P (Ctx.of w) (mkE P t ps) v:=by
  intro hc ha
  rw[hc] at h1 h3
  match ps,h1 with
  | [q],_ =>
   have:=h3 0 q v rfl rfl
   simpa [mkE,ha] using this
 unfold flatB at hf
 split at hf
 ·rename_i k hu
  obtain ⟨n,rfl,_⟩:=open_int hu hval hd
  exact scalar rfl (by simp[Aj,hu])
 ·rename_i hu
  obtain ⟨b,rfl,_⟩:=open_bool hu hval hd
  exact scalar rfl (by simp[Aj,hu])
 ·rename_i hu
  obtain ⟨b,rfl⟩:=okWide_string hu hval
  exact scalar rfl (by simp[Aj,hu])
 ·rename_i e hu
  obtain ⟨a,len,cap,rfl⟩:=okWide_slice hu hval
  exact scalar rfl (by simp[Aj,hu])
 ·rename_i fs hu
  obtain ⟨cs,rfl,hl⟩:=okWide_struct hu hval
  have ha:Aj P t=true:=by simp[Aj,hu]
  unfold mkE
  rw[if_pos ha]
  exact .agg (by simpa [Value.cells] using h1.symm) fun j c u g1 g2=>h3 j c u g1 (by simpa [Value.cells] using g2)
 ·rename_i m e hu
  unfold Value.okWide at hval
  rw[hu] at hval
  obtain ⟨cs,rfl,hl,_⟩:=hval
  have ha:Aj P t=true:=by simp[Aj,hu]
  unfold mkE
  rw[if_pos ha]
  exact .agg (by simpa [Value.cells] using h1.symm) fun j c u g1 g2=>h3 j c u g1 (by simpa [Value.cells] using g2)
 ·cases hf
end
theorem Same.below {w w':World} (h:Same w w'):Below w.heap.size w w':=⟨h.os,h.tape,h.output,h.size,h.block⟩
theorem law_calls {P:Program} {k:FuncId} {args:List PV} {Vs:Array Value} {w:World} (h:Ak P k args (.val (.bool true))) (hv:Cs P (Ctx.of w) args Vs) (hg:Glb P (Ctx.of w):=by exact glb_none (by decide +kernel)):Calls P k Vs w fun e w'=>e=.returned (.bool true)/\Below w.heap.size w w':=by
 refine (h (Ctx.of w) (of_rh P w hg) Vs hv).mono ?_
 rintro e w' ⟨V,rfl,hs,hrv⟩
 cases hrv
 exact ⟨rfl,hs.below⟩
end Go.Hx
