/- Hx: the machine in continuations: calls, regions, code; it says no more than the machine. -/
import Derived.Test.YtneklpbkfmljfaaPart3
import Derived.ProofKit
import Derived.OpenShut
import Derived.ShutString
import Derived.ChangeOld
import Derived.Below
namespace Go.Hx

abbrev ExK (α : Type) := Nat → FuncId → Code → List PV → List Row → (PX → List PV → List Row → Option α) → Option α

section
variable {α : Type}
def resAllK (P : Program) (S : List PV) (H : List Row) : List ResultVar → (List PV → Option α) → Option α
  | [], k => k []
  | .tmp t :: rs, k => resAllK P S H rs fun ps => k (S.getD t (.val undef) :: ps)
  | .cell a t :: rs, k => need (okPtr H (S.getD a (.val undef))) (loadK P H t (S.getD a (.val undef)) fun p => resAllK P S H rs fun ps => k (p :: ps))
theorem resAllK_some {P : Program} {S : List PV} {H : List Row} : ∀ {rs : List ResultVar} {k : List PV → Option α} {r : α}, resAllK P S H rs k = some r → ∃ ps, resAll P S H rs = some ps ∧ k ps = some r
  | [], k, r, h => ⟨[], rfl, h⟩
  | .tmp t :: rs, k, r, h => by
    obtain ⟨ps, h1, h2⟩ := resAllK_some (rs := rs) h
    exact ⟨_, by simp only [resAll, resOne, h1], h2⟩
  | .cell a t :: rs, k, r, h => by
    obtain ⟨g1, g2⟩ := need_some h
    obtain ⟨p, g3, g4⟩ := loadK_some g2
    obtain ⟨ps, h1, h2⟩ := resAllK_some (rs := rs) g4
    exact ⟨_, by simp only [resAll, resOne, h1]; rw [if_pos g1]; simp only [g3], h2⟩
def resK (P : Program) (fn : Func) (S : List PV) (H : List Row) (k : PV → Option α) : Option α :=
  resAllK P S H fn.results.toList fun ps => match ps with | [p] => k p | ps => k (.tup ps)
theorem resK_some {P : Program} {fn : Func} {S : List PV} {H : List Row} {k : PV → Option α} {r : α} (h : resK P fn S H k = some r) : ∃ p, resQ P fn S H = some p ∧ k p = some r := by
  obtain ⟨ps, h1, h2⟩ := resAllK_some h
  unfold resQ
  rw [h1]
  split at h2
  · exact ⟨_, rfl, h2⟩
  · rename_i hne
    refine ⟨.tup ps, ?_, h2⟩
    split
    · rename_i q hq; cases hq; exact absurd rfl (hne _)
    · rename_i hq; cases hq; rfl
    · rename_i hq; cases hq

def callXK (P : Program) (ex : ExK α) (ro : Nat) (f : FuncId) (args : List PV) (H : List Row) (k : PV → List Row → Option α) : Option α :=
  match P.funcs[f]? with
  | some fn =>
    match fn.body with
    | some b =>
      match fn.name == "runtime.NumGoroutine" with
      | true => none
      | false =>
        ex ro f b (args ++ List.replicate (fn.ntmps - args.length) (.val undef)) H fun x S' H' =>
          match x with
          | .exit _ => none
          | _ => resK P fn S' H' fun p => k p H'
    | none => none
  | none => none
def callIK (P : Program) (E : EnvK) (ex : ExK α) (ro : Nat) (f : FuncId) (args : List PV) (H : List Row) (k : PV → List Row → Option α) : Option α :=
  match E.cal ro f args H with
  | some d => d.go fun r => k r.1 r.2
  | none => callXK P ex ro f args H k
/-- What frz does, its questions outermost. -/
def frz0K (H : List Row) (h : Nat) (p : PV) (k : PV → Option α) : Option α :=
  match p with
  | .sl i n m len =>
    bif decide (h ≤ i) then
      match rowAt H i with
      | some r => bif r.bv then need (r.es.length == n) (k (.lst false r.t ((r.es.drop m).take len))) else k (.sl i n m len)
      | none => k (.sl i n m len)
    else k (.sl i n m len)
  | p => k (frz H h p)
theorem frz0K_some {H : List Row} {h : Nat} {p : PV} {k : PV → Option α} {r : α} (g : frz0K H h p k = some r) : k (frz H h p) = some r := by
  unfold frz0K at g
  split at g
  · rename_i i n m len
    rw [frz]
    by_cases hh : h ≤ i
    · rw [if_pos hh]
      rw [decide_eq_true hh, cond_true] at g
      cases hr : rowAt H i with
      | none => rw [hr] at g; exact g
      | some r0 =>
        rw [hr] at g
        dsimp only at g ⊢
        cases hb : r0.bv with
        | true =>
          rw [hb, cond_true] at g
          obtain ⟨g1, g2⟩ := need_some g
          rw [g1]
          exact g2
        | false => rw [hb] at g; exact g
    · rw [if_neg hh]
      rw [decide_eq_false hh, cond_false] at g
      exact g
  · exact g
def frz0sK (H : List Row) (h : Nat) : List PV → (List PV → Option α) → Option α
  | [], k => k []
  | p :: ps, k => frz0K H h p fun q => frz0sK H h ps fun qs => k (q :: qs)
theorem frz0sK_some {H : List Row} {h : Nat} : ∀ {ps : List PV} {k : List PV → Option α} {r : α}, frz0sK H h ps k = some r → k (frzs H h ps) = some r
  | [], k, r, g => by rw [frzs]; exact g
  | p :: ps, k, r, g => by rw [frzs]; exact frz0sK_some (ps := ps) (frz0K_some g)
/-- The same; of a struct, cell by cell. -/
def frzK (H : List Row) (h : Nat) (p : PV) (k : PV → Option α) : Option α :=
  match p with
  | .agg cs => frz0sK H h cs fun ds => k (.agg ds)
  | p => frz0K H h p k
theorem frzK_some {H : List Row} {h : Nat} {p : PV} {k : PV → Option α} {r : α} (g : frzK H h p k = some r) : k (frz H h p) = some r := by
  unfold frzK at g
  split at g
  · rw [frz]; exact frz0sK_some g
  · exact frz0K_some g
def frzsK (H : List Row) (h : Nat) : List PV → (List PV → Option α) → Option α
  | [], k => k []
  | p :: ps, k => frzK H h p fun q => frzsK H h ps fun qs => k (q :: qs)
theorem frzsK_some {H : List Row} {h : Nat} : ∀ {ps : List PV} {k : List PV → Option α} {r : α}, frzsK H h ps k = some r → k (frzs H h ps) = some r
  | [], k, r, g => by rw [frzs]; exact g
  | p :: ps, k, r, g => by rw [frzs]; exact frzsK_some (ps := ps) (frzK_some g)
def oraK (r : PV) (ags args : List PV) (k : PV → Option α) : Option α :=
  need (mlts 0 ags && mlt 0 r && (plain r || mlts 0 args)) (k r)
def callGK (P : Program) (E : EnvK) (ex : ExK α) (ro : Nat) (f : FuncId) (args : List PV) (H : List Row) (k : PV → List Row → Option α) : Option α :=
  frzsK H 0 args fun ags =>
  match E.orD f ags with
  | some d => d.go fun r => oraK r ags args fun p => k p H
  | none =>
  match E.ora f ags with
  | some r => oraK r ags args fun p => k p H
  | none => callIK P E ex ro f args H fun p H' =>
      bif E.keep f then k p H' else frzK H' H.length p fun q => need (mlt H.length q && rowsOk H.length (H'.take H.length)) (k q (H'.take H.length))
def callEK (P : Program) (E : EnvK) (ex : ExK α) (f : FuncId) (args : List PV) (H : List Row) (k : PV → Option α) : Option α :=
  need (mlts H.length args && rowsOk H.length H)
    (frzsK H 0 args fun ags =>
    match E.orD f ags with
    | some d => d.go fun r => oraK r ags args k
    | none =>
    match E.ora f ags with
    | some r => oraK r ags args k
    | none => callIK P E ex H.length f args H fun p H' => frzK H' H.length p fun q => need (mlt H.length q) (k q))

def Ref (exK : ExK α) (ex : Ex) : Prop := ∀ ro f c S H (k : PX → List PV → List Row → Option α) r, exK ro f c S H k = some r → ∃ x S' H', ex ro f c S H = some (x, S', H') ∧ k x S' H' = some r

theorem callXK_some {P : Program} {exK : ExK α} {ex : Ex} (hr : Ref exK ex) {ro : Nat} {f : FuncId} {args : List PV} {H : List Row} {k : PV → List Row → Option α} {r : α} (h : callXK P exK ro f args H k = some r) :
    ∃ p H', callX P ex ro f args H = some (p, H') ∧ k p H' = some r := by
  unfold callXK at h
  split at h
  · rename_i fn hfn
    split at h
    · rename_i b hb
      split at h
      · cases h
      · rename_i hn
        obtain ⟨x, S', H', h1, h2⟩ := hr _ _ _ _ _ _ _ h
        have : x ≠ .exit (match x with | .exit i => i | _ => 0) ∧ resK P fn S' H' (fun p => k p H') = some r := by
          cases x with
          | exit i => cases h2
          | normal => exact ⟨by simp, h2⟩
          | ret => exact ⟨by simp, h2⟩
        obtain ⟨p, h3, h4⟩ := resK_some this.2
        refine ⟨p, H', ?_, h4⟩
        unfold callX
        simp only [hfn, hb]
        rw [if_neg (by simp [hn]), h1]
        cases x with
        | exit i => cases h2
        | normal => simp only [h3, Option.map_some]
        | ret => simp only [h3, Option.map_some]
    · cases h
  · cases h
theorem callIK_some {P : Program} {E : EnvK} {exK : ExK α} {ex : Ex} (hr : Ref exK ex) {ro : Nat} {f : FuncId} {args : List PV} {H : List Row} {k : PV → List Row → Option α} {r : α} (h : callIK P E exK ro f args H k = some r) :
    ∃ p H', callI P E.env ex ro f args H = some (p, H') ∧ k p H' = some r := by
  unfold callIK at h
  unfold callI EnvK.env
  dsimp only
  split at h
  · rename_i d hd
    obtain ⟨a, h1, h2⟩ := DT.go_some h
    rw [hd]
    simp only [Option.bind_some, h1]
    exact ⟨_, _, rfl, h2⟩
  · rename_i hd
    rw [hd]
    exact callXK_some hr h
theorem oraK_some {E : EnvK} {f : FuncId} {args : List PV} {H : List Row} {p : PV} {k : PV → Option α} {r : α} (ho : E.env.ora f (frzs H 0 args) = some p) (h : oraK p (frzs H 0 args) args k = some r) : callO E.env f args H = some p ∧ k p = some r := by
  obtain ⟨h1, h2⟩ := need_some h
  refine ⟨?_, h2⟩
  unfold callO
  rw [ho]
  dsimp only
  rw [if_pos h1]
theorem ora_of {E : EnvK} {f : FuncId} {a : List PV} {p : PV} (hd : E.orD f a = none) (h : E.ora f a = some p) : E.env.ora f a = some p := by
  show (match E.orD f a with | some d => d.run | none => E.ora f a) = _
  rw [hd]; exact h
theorem ora_orD {E : EnvK} {f : FuncId} {a : List PV} {p : PV} {d : DT PV} (hd : E.orD f a = some d) (h : d.run = some p) : E.env.ora f a = some p := by
  show (match E.orD f a with | some d => d.run | none => E.ora f a) = _
  rw [hd]; exact h
theorem ora_none {E : EnvK} {f : FuncId} {a : List PV} (hd : E.orD f a = none) (h : E.ora f a = none) : E.env.ora f a = none := by
  show (match E.orD f a with | some d => d.run | none => E.ora f a) = _
  rw [hd]; exact h
theorem callGK_some {P : Program} {E : EnvK} {exK : ExK α} {ex : Ex} (hr : Ref exK ex) {ro : Nat} {f : FuncId} {args : List PV} {H : List Row} {k : PV → List Row → Option α} {r : α} (h : callGK P E exK ro f args H k = some r) :
    ∃ p H', callG P E.env ex ro f args H = some (p, H') ∧ k p H' = some r := by
  unfold callGK at h
  replace h := frzsK_some h
  unfold callG
  split at h
  · rename_i d hd
    obtain ⟨p, g1, g2⟩ := DT.go_some h
    obtain ⟨h1, h2⟩ := oraK_some (ora_orD hd g1) g2
    rw [h1]
    exact ⟨_, _, rfl, h2⟩
  rename_i hd
  split at h
  · rename_i p hp
    obtain ⟨h1, h2⟩ := oraK_some (ora_of hd hp) h
    rw [h1]
    exact ⟨_, _, rfl, h2⟩
  · rename_i hn
    have : callO E.env f args H = none := by
      unfold callO
      rw [ora_none hd hn]
    rw [this]
    obtain ⟨p, H', h1, h2⟩ := callIK_some hr h
    simp only [h1]
    show ∃ q H2, (if E.keep f = true then some (p, H') else some (settle H.length p H')) = some (q, H2) ∧ _
    cases hk : E.keep f with
    | true => rw [hk] at h2; exact ⟨_, _, rfl, h2⟩
    | false =>
      rw [hk, cond_false] at h2
      obtain ⟨g1, g2⟩ := need_some (frzK_some h2)
      refine ⟨_, _, by rw [if_neg (by simp)]; simp only [settle]; rw [if_pos g1], g2⟩
theorem callEK_some {P : Program} {E : EnvK} {exK : ExK α} {ex : Ex} (hr : Ref exK ex) {f : FuncId} {args : List PV} {H : List Row} {k : PV → Option α} {r : α} (h : callEK P E exK f args H k = some r) :
    ∃ p, callE P E.env ex f args H = some p ∧ k p = some r := by
  obtain ⟨h0, h⟩ := need_some h
  replace h := frzsK_some h
  unfold callE
  rw [if_pos h0]
  split at h
  · rename_i d hd
    obtain ⟨p, g1, g2⟩ := DT.go_some h
    obtain ⟨h1, h2⟩ := oraK_some (ora_orD hd g1) g2
    rw [h1]
    exact ⟨_, rfl, h2⟩
  rename_i hd
  split at h
  · rename_i p hp
    obtain ⟨h1, h2⟩ := oraK_some (ora_of hd hp) h
    rw [h1]
    exact ⟨_, rfl, h2⟩
  · rename_i hn
    have : callO E.env f args H = none := by
      unfold callO
      rw [ora_none hd hn]
    rw [this]
    obtain ⟨p, H', h1, h2⟩ := callIK_some hr h
    obtain ⟨g1, g2⟩ := need_some (frzK_some h2)
    simp only [h1]
    exact ⟨_, by rw [if_pos g1], g2⟩

def yieldK (ex : ExK α) (ro i : Nat) (args : List PV) (H : List Row) (k : PV → List Row → Option α) : Option α :=
  match loopAt H i with
  | some ⟨kk, .ready⟩ =>
    need (decide (ro ≤ i) && args.length == kk.ps.size)
      (ex ro kk.f kk.asg (setPs kk.S0 kk.ps.toList args) H fun x S1 H1 =>
        match x with
        | .normal =>
          match loopAt H1 i, setSt H1 i .busy with
          | some ⟨_, .ready⟩, some H2 =>
            ex ro kk.f kk.body S1 H2 fun x _ H3 =>
              match x with
              | .normal => dflt (setSt H3 i .ready) fun H4 => k (.val (.bool true)) H4
              | .exit id => dflt (setSt H3 i (.done (.exit id))) fun H4 => k (.val (.bool false)) H4
              | .ret => dflt (setSt H3 i (.done .ret)) fun H4 => k (.val (.bool false)) H4
          | _, _ => none
        | _ => none)
  | _ => none
theorem yieldK_some {exK : ExK α} {ex : Ex} (hr : Ref exK ex) {ro i : Nat} {args : List PV} {H : List Row} {k : PV → List Row → Option α} {r : α} (h : yieldK exK ro i args H k = some r) :
    ∃ b H', yieldQ ex ro i args H = some (b, H') ∧ k (.val (.bool b)) H' = some r := by
  unfold yieldK at h
  unfold yieldQ
  split at h
  · rename_i kk hk
    rw [hk]
    obtain ⟨h1, h2⟩ := need_some h
    dsimp only
    rw [if_pos h1]
    obtain ⟨x, S1, H1, h3, h4⟩ := hr _ _ _ _ _ _ _ h2
    rw [h3]
    split at h4
    · dsimp only
      split at h4
      · rename_i H2 hl hs
        rw [hl, hs]
        obtain ⟨x, S3, H3, h5, h6⟩ := hr _ _ _ _ _ _ _ h4
        dsimp only
        rw [h5]
        cases x with
        | normal =>
          obtain ⟨H4, h7, h8⟩ := dflt_some h6
          simp only [jumpOf, h7, Option.map_some]
          exact ⟨_, _, rfl, h8⟩
        | exit id =>
          obtain ⟨H4, h7, h8⟩ := dflt_some h6
          simp only [jumpOf, h7, Option.map_some]
          exact ⟨_, _, rfl, h8⟩
        | ret =>
          obtain ⟨H4, h7, h8⟩ := dflt_some h6
          simp only [jumpOf, h7, Option.map_some]
          exact ⟨_, _, rfl, h8⟩
      · cases h4
    · cases h4
  · cases h
def overK (S : List PV) (i : Nat) (H : List Row) (k : PX → List PV → List Row → Option α) : Option α :=
  match loopAt H i, setSt H i .over with
  | some ⟨_, .ready⟩, some H' => k .normal S H'
  | some ⟨_, .done .ret⟩, some H' => k .ret S H'
  | some ⟨_, .done (.exit id)⟩, some H' => k (.exit id) S H'
  | _, _ => none
theorem overK_some {S : List PV} {i : Nat} {H : List Row} {k : PX → List PV → List Row → Option α} {r : α} (h : overK S i H k = some r) : ∃ x S' H', overQ S i H = some (x, S', H') ∧ k x S' H' = some r := by
  unfold overK at h
  unfold overQ
  split at h
  · rename_i h1 h2; rw [h1, h2]; exact ⟨_, _, _, rfl, h⟩
  · rename_i h1 h2; rw [h1, h2]; exact ⟨_, _, _, rfl, h⟩
  · rename_i h1 h2; rw [h1, h2]; exact ⟨_, _, _, rfl, h⟩
  · cases h

def stepK (P : Program) (E : EnvK) (ex : ExK α) (ro : Nat) (S : List PV) (H : List Row) (o : Oper) (k : PV → List Row → Option α) : Option α :=
  popK P H (ev S) o.op (fun p => k p H) (newK P H (ev S) o.op (fun p r => k p (H ++ [r]))
    (match o.op with
      | .store T a x => storeK P ro H T (ev S a) (ev S x) fun H' => k (.val undef) H'
      | .call c =>
        match c.callee with
        | .builtin .append => match c.args.toList with | [x, y] => appendK P ro H c (ev S x) (ev S y) k | _ => none
        | .value g => match ev S g with | .fn (.func f) first cap => callGK P E ex ro f (first ++ c.args.toList.map (ev S) ++ cap) H k | .yld i => yieldK ex ro i (c.args.toList.map (ev S)) H k | _ => none
        | _ => moreK P ro H (ev S) o.op k
      | _ => moreK P ro H (ev S) o.op k))
theorem stepK_some {P : Program} {E : EnvK} {exK : ExK α} {ex : Ex} (hr : Ref exK ex) {ro : Nat} {S : List PV} {H : List Row} {o : Oper} {k : PV → List Row → Option α} {r : α} (h : stepK P E exK ro S H o k = some r) :
    ∃ p H', stepS P E.env ex ro S H o = some (p, H') ∧ k p H' = some r := by
  unfold stepK at h
  unfold stepS
  rcases popK_some h with ⟨p, h1, h2⟩ | ⟨h1, h⟩
  · exact ⟨p, H, by rw [h1], h2⟩
  · rw [h1]
    rcases newK_some h with ⟨p, rw', h3, h4⟩ | ⟨h3, h⟩
    · exact ⟨p, _, by rw [h3], h4⟩
    · rw [h3]
      dsimp only
      split at h
      · rename_i hop
        simp only [hop]
        obtain ⟨H', h5, h6⟩ := storeK_some h
        exact ⟨_, _, by rw [h5]; rfl, h6⟩
      · rename_i c hop
        simp only [hop]
        split at h
        · rename_i hc
          simp only [hc]
          split at h
          · rename_i x y ha
            simp only [ha]
            exact appendK_some h
          · cases h
        · rename_i g hc
          simp only [hc]
          split at h
          · rename_i f first cap hg
            simp only [hg]
            exact callGK_some hr h
          · rename_i i hg
            simp only [hg]
            obtain ⟨b, H', h5, h6⟩ := yieldK_some hr h
            exact ⟨_, _, by rw [h5]; rfl, h6⟩
          · cases h
        · obtain ⟨p, H', h5, h6⟩ := moreK_some h
          refine ⟨p, H', ?_, h6⟩
          split
          · rename_i hc; exact absurd hc (by assumption)
          · rename_i hc; exact ((by assumption : ∀ f, c.callee = .value f → False) _ hc).elim
          · rw [← hop]; exact h5
      · obtain ⟨p, H', h5, h6⟩ := moreK_some h
        refine ⟨p, H', ?_, h6⟩
        split
        · rename_i hc; exact ((by assumption : ∀ T a x, o.op = .store T a x → False) _ _ _ hc).elim
        · rename_i hc; exact ((by assumption : ∀ c, o.op = .call c → False) _ hc).elim
        · exact h5

def stepEK (P : Program) (E : EnvK) (ex : ExK α) (S : List PV) (H : List Row) (o : Oper) (k : PV → List Row → Option α) : Option α :=
  popK P H (ev S) o.op (fun p => k p H) (newK P H (ev S) o.op (fun p r => k p (H ++ [r]))
    (match o.op with
      | .call c =>
        match c.callee with
        | .value g => match ev S g with | .fn (.func f) first cap => callEK P E ex f (first ++ c.args.toList.map (ev S) ++ cap) H fun p => k p H | _ => none
        | _ => none
      | _ => none))
theorem stepEK_some {P : Program} {E : EnvK} {exK : ExK α} {ex : Ex} (hr : Ref exK ex) {S : List PV} {H : List Row} {o : Oper} {k : PV → List Row → Option α} {r : α} (h : stepEK P E exK S H o k = some r) :
    ∃ p H', stepE P E.env ex S H o = some (p, H') ∧ k p H' = some r := by
  unfold stepEK at h
  unfold stepE
  rcases popK_some h with ⟨p, h1, h2⟩ | ⟨h1, h⟩
  · exact ⟨p, H, by rw [h1], h2⟩
  · rw [h1]
    rcases newK_some h with ⟨p, rw', h3, h4⟩ | ⟨h3, h⟩
    · exact ⟨p, _, by rw [h3], h4⟩
    · rw [h3]
      dsimp only
      split at h
      · rename_i c hop
        simp only [hop]
        split at h
        · rename_i g hc
          simp only [hc]
          split at h
          · rename_i f first cap hg
            simp only [hg]
            obtain ⟨p, h5, h6⟩ := callEK_some hr h
            exact ⟨p, H, by rw [h5]; rfl, h6⟩
          · cases h
        · cases h
      · cases h

def guardK (ops : Array Oper) (S : List PV) (o : Oper) (k : Bool → List PV → Option α) : Option α :=
  match o.guard with
  | none => k true S
  | some (j, want) =>
    match (ops[j]?).bind (·.dst) with
    | none => k false S
    | some d =>
      match S[d]? with
      | none => k false S
      | some (.val (.bool t)) => bif t then k want (S.set d (.val (.bool true))) else k (!want) (S.set d (.val (.bool false)))
      | some (.val _) => k false S
      | some _ => none
theorem guardK_some {ops : Array Oper} {S : List PV} {o : Oper} {k : Bool → List PV → Option α} {r : α} (h : guardK ops S o k = some r) : ∃ b S1, guardQ ops S o = some (b, S1) ∧ k b S1 = some r := by
  unfold guardK at h
  unfold guardQ
  split at h
  · rename_i hg; rw [hg]; exact ⟨_, _, rfl, h⟩
  · rename_i j want hg
    rw [hg]
    dsimp only
    split at h
    · rename_i hd; rw [hd]; exact ⟨_, _, rfl, h⟩
    · rename_i d hd
      rw [hd]
      dsimp only
      split at h
      · rename_i hs; rw [hs]; exact ⟨_, _, rfl, h⟩
      · rename_i t hs
        rw [hs]
        cases t
        · exact ⟨_, _, rfl, h⟩
        · exact ⟨_, _, rfl, h⟩
      · rename_i v hv hs
        rw [hs]
        refine ⟨false, S, ?_, h⟩
        cases v <;> first | rfl | exact absurd rfl (hv _)
      · cases h

def opsK (step : List PV → List Row → Oper → (PV → List Row → Option α) → Option α) (ops : Array Oper) : List Oper → List PV → List Row → (List PV → List Row → Option α) → Option α
  | [], S, H, k => k S H
  | o :: os, S, H, k => guardK ops S o fun w S1 =>
    match w with
    | true => step S1 H o fun p H1 => opsK step ops os (putS S1 o.dst p) H1 k
    | false => opsK step ops os (putS S1 o.dst (.val undef)) H k
theorem opsK_some {stK : List PV → List Row → Oper → (PV → List Row → Option α) → Option α} {st : List PV → List Row → Oper → Option (PV × List Row)}
    (hst : ∀ S H o k r, stK S H o k = some r → ∃ p H', st S H o = some (p, H') ∧ k p H' = some r) {ops : Array Oper} :
    ∀ {os : List Oper} {S : List PV} {H : List Row} {k : List PV → List Row → Option α} {r : α}, opsK stK ops os S H k = some r → ∃ S' H', opsQ st ops os S H = some (S', H') ∧ k S' H' = some r
  | [], S, H, k, r, h => ⟨S, H, rfl, h⟩
  | o :: os, S, H, k, r, h => by
    obtain ⟨w, S1, h1, h2⟩ := guardK_some h
    simp only [opsQ, h1]
    cases w with
    | true =>
      obtain ⟨p, H1, h3, h4⟩ := hst _ _ _ _ _ h2
      simp only [h3]
      exact opsK_some hst (os := os) h4
    | false => exact opsK_some hst (os := os) h2

def stepXK (P : Program) (E : EnvK) (ex : ExK α) (K : List Nat) (S : List PV) (H : List Row) (o : Oper) (k : PV → List Row → Option α) : Option α :=
  match K with
  | [] => stepEK P E ex S H o k
  | x :: K => popK P (kill (x :: K) H) (ev S) o.op (fun p => k p H) (newK P H (ev S) o.op (fun p r => k p (H ++ [r])) none)
theorem stepXK_some {P : Program} {E : EnvK} {exK : ExK α} {ex : Ex} (hr : Ref exK ex) {K : List Nat} {S : List PV} {H : List Row} {o : Oper} {k : PV → List Row → Option α} {r : α} (h : stepXK P E exK K S H o k = some r) :
    ∃ p H', stepX P E.env ex K S H o = some (p, H') ∧ k p H' = some r := by
  cases K with
  | nil => exact stepEK_some hr h
  | cons x K =>
    unfold stepXK at h
    unfold stepX
    rcases popK_some h with ⟨p, h1, h2⟩ | ⟨h1, h⟩
    · exact ⟨p, H, by simp only [h1], h2⟩
    · rcases newK_some h with ⟨p, rw', h3, h4⟩ | ⟨h3, h⟩
      · exact ⟨p, _, by simp only [h1, h3]; rfl, h4⟩
      · cases h
def stepMEK (P : Program) (E : EnvK) (ex : ExK α) (W R K : List Nat) (S : List PV) (H : List Row) (o : Oper) (k : PV → List Row → Option α) : Option α :=
  stepXK P E ex K S (poison R H) o fun p H1 =>
    match H1.drop H.length with
    | [] => k p H
    | [r] => need (W.contains H.length && !R.contains H.length) (k p (H ++ [r]))
    | _ => none
theorem stepMEK_some {P : Program} {E : EnvK} {exK : ExK α} {ex : Ex} (hr : Ref exK ex) {W R K : List Nat} {S : List PV} {H : List Row} {o : Oper} {k : PV → List Row → Option α} {r : α} (h : stepMEK P E exK W R K S H o k = some r) :
    ∃ p H', stepME P E.env ex W R K S H o = some (p, H') ∧ k p H' = some r := by
  obtain ⟨p, H1, h1, h2⟩ := stepXK_some hr h
  unfold stepME
  rw [h1]
  dsimp only
  split at h2
  · rename_i hd; rw [hd]; exact ⟨_, _, rfl, h2⟩
  · rename_i hd
    rw [hd]
    obtain ⟨h3, h4⟩ := need_some h2
    dsimp only
    rw [if_pos h3]
    exact ⟨_, _, rfl, h4⟩
  · cases h2
def stepMK (P : Program) (E : EnvK) (ex : ExK α) (ro : Nat) (W R K G : List Nat) (S : List PV) (H : List Row) (o : Oper) (k : PV → List Row → Option α) : Option α :=
  match o.op with
  | .store T a x =>
    match ev S a with
    | .ptr i n q j => need (W.contains i && !R.contains i) (storeK P ro H T (.ptr i n q j) (ev S x) fun H' => k (.val undef) H')
    | _ => none
  | _ =>
    match wcallQ S o.op with
    | some (f, args) =>
      match wRows E.pure f args with
      | [] => stepMEK P E ex W R K S H o k
      | K =>
        need (K.all (fun x => W.contains x && !R.contains x) && args.all (argOk H.length) && decide (ro ≤ H.length) && rowsOk 0 (maskH K H))
          (callIK P E ex ro f args (maskH K H) fun p H' => need (plain p && rowsOk 0 (maskH K (H'.take H.length)) && shpsB K H H') (k p (backH K H H')))
    | none =>
      match growQ S o.op with
      | some (c, i, x, y) => need (W.contains i && !R.contains i && G.contains i && srcFree R y) (appendK P ro H c x y k)
      | none => stepMEK P E ex W R K S H o k
theorem stepMK_some {P : Program} {E : EnvK} {exK : ExK α} {ex : Ex} (hr : Ref exK ex) {ro : Nat} {W R K G : List Nat} {S : List PV} {H : List Row} {o : Oper} {k : PV → List Row → Option α} {r : α} (h : stepMK P E exK ro W R K G S H o k = some r) :
    ∃ p H', stepM P E.env ex ro W R K G S H o = some (p, H') ∧ k p H' = some r := by
  unfold stepMK at h
  unfold stepM
  split at h
  · rename_i hop
    simp only [hop]
    split at h
    · rename_i ha
      simp only [ha]
      obtain ⟨h1, h2⟩ := need_some h
      rw [if_pos h1]
      obtain ⟨H', h3, h4⟩ := storeK_some h2
      exact ⟨_, _, by rw [h3]; rfl, h4⟩
    · cases h
  · rename_i hno
    have key : (∃ p H', (match wcallQ S o.op with
        | some (f, args) =>
          match wRows E.pure f args with
          | [] => stepME P E.env ex W R K S H o
          | K =>
            if K.all (fun x => W.contains x && !R.contains x) && args.all (argOk H.length) && decide (ro ≤ H.length) && rowsOk 0 (maskH K H) then
              match callI P E.env ex ro f args (maskH K H) with
              | some (p, H') => if plain p && rowsOk 0 (maskH K (H'.take H.length)) && shpsB K H H' then some (p, backH K H H') else none
              | none => none
            else none
        | none =>
          match growQ S o.op with
          | some (c, i, x, y) => if W.contains i && !R.contains i && G.contains i && srcFree R y then appendQ P ro H c x y else none
          | none => stepME P E.env ex W R K S H o) = some (p, H') ∧ k p H' = some r) := by
      split at h
      · rename_i f args hw
        try rw [hw]
        try dsimp only
        split at h
        · rename_i hp
          try rw [hp]
          exact stepMEK_some hr h
        · rename_i hne
          obtain ⟨h1, h2⟩ := need_some h
          obtain ⟨p, H', h3, h4⟩ := callIK_some hr h2
          obtain ⟨h5, h6⟩ := need_some h4
          rw [if_pos h1, h3]
          dsimp only
          rw [if_pos h5]
          exact ⟨_, _, rfl, h6⟩
      · rename_i hw
        try rw [hw]
        try dsimp only
        split at h
        · rename_i hg
          try rw [hg]
          try dsimp only
          obtain ⟨h1, h2⟩ := need_some h
          rw [if_pos h1]
          exact appendK_some h2
        · rename_i hg
          try rw [hg]
          exact stepMEK_some hr h
    obtain ⟨p, H', h1, h2⟩ := key
    refine ⟨p, H', ?_, h2⟩
    split
    · rename_i hop; exact absurd hop (hno _ _ _)
    · exact h1
def stepsMK (P : Program) (E : EnvK) (ex : ExK α) (ro : Nat) (W G : List (List Nat)) (m : List Nat) (n j : Nat) : List PV → List Row → Oper → (PV → List Row → Option α) → Option α :=
  stepMK P E ex ro (W.getD j []) (confl W m n j) (confl G m n j) (G.getD j [])
def stepPK (P : Program) (E : EnvK) (ex : ExK α) (S : List PV) (H : List Row) (o : Oper) (k : PV → List Row → Option α) : Option α :=
  stepEK P E ex S H o fun p H1 => match Nat.beq H1.length H.length with | true => k p H | false => none
theorem stepPK_some {P : Program} {E : EnvK} {exK : ExK α} {ex : Ex} (hr : Ref exK ex) {S : List PV} {H : List Row} {o : Oper} {k : PV → List Row → Option α} {r : α} (h : stepPK P E exK S H o k = some r) :
    ∃ p H', stepP P E.env ex S H o = some (p, H') ∧ k p H' = some r := by
  obtain ⟨p, H1, h1, h2⟩ := stepEK_some hr h
  unfold stepP
  rw [h1]
  dsimp only
  split at h2
  · rename_i hb
    rw [if_pos (Nat.eq_of_beq_eq_true hb)]
    exact ⟨_, _, rfl, h2⟩
  · cases h2
def stepsPK (P : Program) (E : EnvK) (ex : ExK α) (ro pv j : Nat) (S : List PV) (H : List Row) (o : Oper) (k : PV → List Row → Option α) : Option α :=
  match Nat.beq j pv with
  | true => stepK P E ex ro S H o k
  | false => stepPK P E ex S H o k
theorem stepsPK_some {P : Program} {E : EnvK} {exK : ExK α} {ex : Ex} (hr : Ref exK ex) {ro pv j : Nat} {S : List PV} {H : List Row} {o : Oper} {k : PV → List Row → Option α} {r : α} (h : stepsPK P E exK ro pv j S H o k = some r) :
    ∃ p H', stepsP P E.env ex ro pv j S H o = some (p, H') ∧ k p H' = some r := by
  unfold stepsPK at h
  unfold stepsP
  split at h
  · rename_i hb
    rw [if_pos (Nat.eq_of_beq_eq_true hb)]
    exact stepK_some hr h
  · rename_i hb
    rw [if_neg (Nat.ne_of_beq_eq_false hb)]
    exact stepPK_some hr h
def opsJK (step : Nat → List PV → List Row → Oper → (PV → List Row → Option α) → Option α) (ops : Array Oper) : Nat → List Oper → List PV → List Row → (List PV → List Row → Option α) → Option α
  | _, [], S, H, k => k S H
  | j, o :: os, S, H, k => guardK ops S o fun w S1 =>
    match w with
    | true => step j S1 H o fun p H1 => opsJK step ops (j + 1) os (putS S1 o.dst p) H1 k
    | false => opsJK step ops (j + 1) os (putS S1 o.dst (.val undef)) H k
theorem opsJK_some {stK : Nat → List PV → List Row → Oper → (PV → List Row → Option α) → Option α} {st : Nat → List PV → List Row → Oper → Option (PV × List Row)}
    (hst : ∀ j S H o k r, stK j S H o k = some r → ∃ p H', st j S H o = some (p, H') ∧ k p H' = some r) {ops : Array Oper} :
    ∀ {os : List Oper} {j : Nat} {S : List PV} {H : List Row} {k : List PV → List Row → Option α} {r : α}, opsJK stK ops j os S H k = some r → ∃ S' H', opsJ st ops j os S H = some (S', H') ∧ k S' H' = some r
  | [], j, S, H, k, r, h => ⟨S, H, rfl, h⟩
  | o :: os, j, S, H, k, r, h => by
    obtain ⟨w, S1, h1, h2⟩ := guardK_some h
    simp only [opsJ, h1]
    cases w with
    | true =>
      obtain ⟨p, H1, h3, h4⟩ := hst _ _ _ _ _ _ h2
      simp only [h3]
      exact opsJK_some hst (os := os) h4
    | false => exact opsJK_some hst (os := os) h2

def iterK (body : List PV → List Row → (PX → List PV → List Row → Option α) → Option α) (live : Option (List Tmp)) (ro : Nat) : Nat → List PV → List Row → (PX → List PV → List Row → Option α) → Option α
  | 0, _, _, _ => none
  | m + 1, S, H, k =>
    body (keepS live S) H fun x S1 H1 =>
      match x with
      | .normal => bif mlts H.length (keepS live S1) && decide (H.length ≤ H1.length) && rowsOk H.length (H1.take H.length) && decide (ro ≤ H.length) then iterK body live ro m (trimS H.length (keepS live S1)) (H1.take H.length) k
        else iterK body live ro m (keepS live S1) H1 k
      | .exit i => k (.exit i) S1 H1
      | .ret => k .ret S1 H1
theorem iterK_some {bK : List PV → List Row → (PX → List PV → List Row → Option α) → Option α} {b : List PV → List Row → Option (PX × List PV × List Row)}
    (hb : ∀ S H k r, bK S H k = some r → ∃ x S' H', b S H = some (x, S', H') ∧ k x S' H' = some r) {live : Option (List Tmp)} {ro : Nat} :
    ∀ {m : Nat} {S : List PV} {H : List Row} {k : PX → List PV → List Row → Option α} {r : α}, iterK bK live ro m S H k = some r → ∃ x S' H', iterQ b live ro m S H = some (x, S', H') ∧ k x S' H' = some r
  | 0, _, _, _, _, h => by cases h
  | m + 1, S, H, k, r, h => by
    obtain ⟨x, S1, H1, h1, h2⟩ := hb _ _ _ _ h
    simp only [iterQ, h1]
    cases x with
    | normal =>
      dsimp only at h2 ⊢
      split
      · rename_i g1
        rw [g1] at h2
        exact iterK_some hb (m := m) h2
      · rename_i g1
        rw [Bool.not_eq_true] at g1
        rw [g1] at h2
        exact iterK_some hb (m := m) h2
    | exit i => exact ⟨_, _, _, rfl, h2⟩
    | ret => exact ⟨_, _, _, rfl, h2⟩

/-- What was asked is known from there on. -/
def setC (S : List PV) (c : Operand) (b : Bool) : List PV := match c with | .tmp d => S.set d (.val (.bool b)) | _ => S
theorem setC_same {S : List PV} {c : Operand} {b : Bool} (h : ev S c = .val (.bool b)) : setC S c b = S := by
  cases c with
  | tmp d =>
    show S.set d (.val (.bool b)) = S
    have h' : S.getD d (.val undef) = .val (.bool b) := h
    apply List.ext_getElem?
    intro i
    rw [List.getElem?_set]
    split
    · rename_i e; subst e
      split
      · rename_i hl
        rw [← h']
        simp [List.getD, List.getElem?_eq_getElem hl]
      · rename_i hl; exact (List.getElem?_eq_none (by omega)).symm
    · rfl
  | _ => rfl

def execK (P : Program) (E : EnvK) : Nat → ExK α
  | 0 => fun _ _ _ _ _ _ => none
  | n + 1 => fun ro f c S H k =>
    match c with
    | .skip => k .normal S H
    | .label _ => k .normal S H
    | .region id ops draw =>
      match dropQ ro (E.drop f id) S H with
      | (S, H) =>
        match draw with
        | true =>
          match drawOk P ops.toList with
          | true =>
            match pivot ops.toList S with
            | some pv =>
              match pivotOk (masks ops.toList []) ops.size pv with
              | true => opsJK (stepsPK P E (execK P E n) ro pv) ops 0 ops.toList S H fun S' H' => k .normal S' H'
              | false => none
            | none =>
              match mixed (guessW E.pure S ops.toList H.length) with
              | true => opsJK (stepsMK P E (execK P E n) ro ((guessW E.pure S ops.toList H.length).map fun x => x.2.1) ((guessW E.pure S ops.toList H.length).map fun x => x.2.2) (masks ops.toList []) ops.size) ops 0 ops.toList S H fun S' H' => k .normal S' H'
              | false => opsK (stepEK P E (execK P E n)) ops ops.toList S H fun S' H' => k .normal S' H'
          | false => none
        | false => opsK (stepK P E (execK P E n) ro) ops ops.toList S H fun S' H' => k .normal S' H'
    | .seq a b => execK P E n ro f a S H fun x S1 H1 =>
      match x with
      | .normal => execK P E n ro f b S1 H1 k
      | .exit i => k (.exit i) S1 H1
      | .ret => k .ret S1 H1
    | .cond c x y =>
      match ev S c with
      | .val (.bool t) => bif t then execK P E n ro f x (setC S c true) H k else execK P E n ro f y (setC S c false) H k
      | _ => none
    | .block id b => execK P E n ro f b S H fun x S1 H1 =>
      match x with
      | .exit i => bif decide (i = id) then k .normal S1 H1 else k (.exit i) S1 H1
      | .normal => k .normal S1 H1
      | .ret => k .ret S1 H1
    | .loop b =>
      match nilsQ ro (E.nils f (rid b)) S H with
      | (S0, H0) =>
        match E.lo f ro (rid b) (keepS (E.live f (rid b)) S0) H0 with
        | some d => d.go fun r => k r.1 r.2.1 r.2.2
        | none => iterK (execK P E n ro f b) (E.live f (rid b)) ro n S0 H0 k
    | .scope b => execK P E n ro f b S H k
    | .exit id => k (.exit id) S H
    | .ret => k .ret S H
    | .rangeFunc g ps asg body =>
      match keepS (E.live f (rid asg)) S with
      | S0 =>
        match ev S0 g with
        | .fn (.func kf) first cap => callIK P E (execK P E n) ro kf (first ++ [.yld H.length] ++ cap) (H ++ [loopRow f S0 ps asg body]) fun _ H2 => overK S0 H.length H2 k
        | _ => none
    | _ => none

theorem execK_ref {P : Program} {E : EnvK} : ∀ n, Ref (α := α) (execK P E n) (exec P E.env n)
  | 0 => fun _ _ _ _ _ _ _ h => by cases h
  | n + 1 => fun ro f c S H k r h => by
    have ih := execK_ref (P := P) (E := E) n
    cases c <;> simp only [execK, reduceCtorEq] at h
    case skip => exact ⟨_, _, _, rfl, h⟩
    case label => exact ⟨_, _, _, rfl, h⟩
    case region id ops draw =>
      have hdr0 : E.env.drop f id = E.drop f id := rfl
      simp only [exec, hdr0]
      generalize dropQ ro (E.drop f id) S H = SH at h ⊢
      obtain ⟨S, H⟩ := SH
      dsimp only at h ⊢
      split at h
      · rename_i hdr
        split at h
        · rename_i hok
          split at h
          · rename_i pv hpn
            split at h
            · rename_i hpo
              obtain ⟨S', H', h1, h2⟩ := opsJK_some (stK := stepsPK P E (execK P E n) ro pv) (st := stepsP P E.env (exec P E.env n) ro pv) (fun j S1 H1 o k r h => stepsPK_some ih h) h
              exact ⟨_, _, _, by rw [if_pos rfl, if_pos hok]; simp only [hpn]; rw [if_pos hpo, h1]; rfl, h2⟩
            · cases h
          · rename_i hpn
            split at h
            · rename_i hm
              obtain ⟨S', H', h1, h2⟩ := opsJK_some (stK := stepsMK P E (execK P E n) ro ((guessW E.pure S ops.toList H.length).map (fun x : Bool × List Nat × List Nat => x.2.1)) ((guessW E.pure S ops.toList H.length).map (fun x : Bool × List Nat × List Nat => x.2.2)) (masks ops.toList []) ops.size) (st := stepsM P E.env (exec P E.env n) ro ((guessW E.env.pure S ops.toList H.length).map (fun x : Bool × List Nat × List Nat => x.2.1)) ((guessW E.env.pure S ops.toList H.length).map (fun x : Bool × List Nat × List Nat => x.2.2)) (masks ops.toList []) ops.size) (fun j S1 H1 o k r (h : stepMK P E (execK P E n) ro _ _ _ _ S1 H1 o k = some r) => stepMK_some ih h) h
              exact ⟨_, _, _, by rw [if_pos rfl, if_pos hok]; simp only [hpn]; rw [if_pos (show mixed (guessW E.env.pure S ops.toList H.length) = true from hm), h1]; rfl, h2⟩
            · rename_i hm
              obtain ⟨S', H', h1, h2⟩ := opsK_some (st := stepE P E.env (exec P E.env n)) (fun S H o k r h => stepEK_some ih h) h
              exact ⟨_, _, _, by rw [if_pos rfl, if_pos hok]; simp only [hpn]; rw [if_neg (show ¬ mixed (guessW E.env.pure S ops.toList H.length) = true from by rw [show mixed (guessW E.env.pure S ops.toList H.length) = false from hm]; simp), h1]; rfl, h2⟩
        · cases h
      · rename_i hdr
        obtain ⟨S', H', h1, h2⟩ := opsK_some (st := stepS P E.env (exec P E.env n) ro) (fun S H o k r h => stepK_some ih h) h
        exact ⟨_, _, _, by rw [if_neg (by simp), h1]; rfl, h2⟩
    case seq a b =>
      obtain ⟨x, S1, H1, h1, h2⟩ := ih _ _ _ _ _ _ _ h
      simp only [exec, h1]
      cases x with
      | normal => exact ih _ _ _ _ _ _ _ h2
      | exit i => exact ⟨_, _, _, rfl, h2⟩
      | ret => exact ⟨_, _, _, rfl, h2⟩
    case cond c x y =>
      split at h
      · rename_i t ht
        simp only [exec, ht]
        cases t
        · simp only [cond_false, setC_same ht] at h; exact ih _ _ _ _ _ _ _ h
        · simp only [cond_true, setC_same ht] at h; exact ih _ _ _ _ _ _ _ h
      · cases h
    case block id b =>
      obtain ⟨x, S1, H1, h1, h2⟩ := ih _ _ _ _ _ _ _ h
      simp only [exec, h1]
      cases x with
      | normal => exact ⟨_, _, _, rfl, h2⟩
      | ret => exact ⟨_, _, _, rfl, h2⟩
      | exit i =>
        dsimp only at h2 ⊢
        by_cases hi : i = id
        · rw [if_pos hi]; simp only [hi, decide_true, cond_true] at h2; exact ⟨_, _, _, rfl, h2⟩
        · rw [if_neg hi]; simp only [hi, decide_false, cond_false] at h2; exact ⟨_, _, _, rfl, h2⟩
    case loop b =>
      simp only [exec]
      show ∃ x S' H', (match (E.lo f ro (rid b) (keepS (E.live f (rid b)) (nilsQ ro (E.nils f (rid b)) S H).1) (nilsQ ro (E.nils f (rid b)) S H).2).bind DT.run with | some r => some r | none => iterQ (exec P E.env n ro f b) (E.live f (rid b)) ro n (nilsQ ro (E.nils f (rid b)) S H).1 (nilsQ ro (E.nils f (rid b)) S H).2) = some (x, S', H') ∧ _
      generalize nilsQ ro (E.nils f (rid b)) S H = SH at h ⊢
      obtain ⟨S0, H0⟩ := SH
      dsimp only at h ⊢
      split at h
      · rename_i d hd
        obtain ⟨a, h1, h2⟩ := DT.go_some h
        rw [hd]
        simp only [Option.bind_some, h1]
        exact ⟨_, _, _, rfl, h2⟩
      · rename_i hd
        rw [hd]
        exact iterK_some (fun S H k r h => ih _ _ _ _ _ _ _ h) h
    case scope b => exact ih _ _ _ _ _ _ _ h
    case exit id => exact ⟨_, _, _, rfl, h⟩
    case ret => exact ⟨_, _, _, rfl, h⟩
    case rangeFunc g ps asg body =>
      split at h
      · rename_i kf first cap hg
        simp only [exec]
        rw [show E.env.live = E.live from rfl, hg]
        obtain ⟨p, H2, h1, h2⟩ := callIK_some ih h
        simp only [h1]
        exact overK_some h2
      · cases h
end

/-- What a call by value comes to. -/
def runP (P : Program) (E : EnvK) (n : Nat) (f : FuncId) (args : List PV) : Option PV :=
  need (mlts 0 args) (callXK P (execK P E n) 0 f args [] fun p H' => frzK H' 0 p fun q => need (mlt 0 q) (some q))
/-- What a call comes to, on rows. -/
def runR (P : Program) (E : EnvK) (n : Nat) (ro : Nat) (f : FuncId) (args : List PV) (H : List Row) : Option (PV × List Row) :=
  callXK P (execK P E n) ro f args H fun p H' => some (p, H')
/-- What code comes to. -/
def runC (P : Program) (E : EnvK) (n : Nat) (ro : Nat) (f : FuncId) (c : Code) (S : List PV) (H : List Row) : Option (PX × List PV × List Row) :=
  execK P E n ro f c S H fun x S' H' => some (x, S', H')

theorem runC_sound {P : Program} {E : EnvK} (hE : EnvOK P E.env) {n ro : Nat} {f : FuncId} {c : Code} {S S' : List PV} {H H' : List Row} {x : PX} (h : runC P E n ro f c S H = some (x, S', H')) (hl : SubCode P f c) : WpTo P c ro S H x S' H' := by
  obtain ⟨x1, S1, H1, h1, h2⟩ := execK_ref n _ _ _ _ _ _ _ h
  cases h2
  exact exec_ok hE n _ _ _ _ _ _ _ _ h1 hl
theorem runR_sound {P : Program} {E : EnvK} (hE : EnvOK P E.env) {n ro : Nat} {f : FuncId} {args : List PV} {H H' : List Row} {p : PV} (h : runR P E n ro f args H = some (p, H')) : Enters P f ∧ RCall P ro f args H p H' := by
  obtain ⟨q, H1, h1, h2⟩ := callXK_some (execK_ref n) h
  cases h2
  refine ⟨?_, fun C hH hro hR Vs hv => ?_⟩
  · intro Vs w
    unfold callX at h1
    split at h1
    · rename_i fn hfn
      split at h1
      · rename_i b hb
        split at h1
        · cases h1
        · rename_i hn; simp [callFunc, hfn, hb]; simpa using hn
      · cases h1
    · cases h1
  · subst hH
    exact (callX_sound hE (exec_ok hE n) hR hro hv h1).2
theorem callX_enters {P : Program} {ex : Ex} {ro : Nat} {f : FuncId} {args : List PV} {H H' : List Row} {p : PV} (h1 : callX P ex ro f args H = some (p, H')) : Enters P f := by
  intro Vs w
  unfold callX at h1
  split at h1
  · rename_i fn hfn
    split at h1
    · rename_i b hb
      split at h1
      · cases h1
      · rename_i hn; simp [callFunc, hfn, hb]; simpa using hn
    · cases h1
  · cases h1
theorem runP_sound {P : Program} {E : EnvK} (hE : EnvOK P E.env) {n : Nat} {f : FuncId} {args : List PV} {p : PV} (h : runP P E n f args = some p) : Enters P f ∧ PCall P f args p := by
  obtain ⟨hm, h⟩ := need_some h
  obtain ⟨q, H2, hI, h2⟩ := callXK_some (execK_ref n) h
  obtain ⟨hq, h2⟩ := need_some (frzK_some h2)
  cases h2
  refine ⟨callX_enters hI, fun C hR Vs hv => ?_⟩
  have hRc : RH P (C.cut 0 True 0) := hR.cut (Nat.zero_le _) (Nat.le_refl _) (by simp [rowsOk])
  have hvc : Cs P (C.cut 0 True 0) args Vs := ⟨hv.1, fun j c v h1 h2 => (hv.2 j c v h1 h2).cut (Nat.zero_le _) (mlts_get hm h1)⟩
  have g2 := (callX_sound hE (exec_ok hE n) (C := C.cut 0 True 0) hRc rfl hvc hI).2
  refine g2.mono ?_
  rintro e w' ⟨V, C', rfl, rfl, hc⟩
  refine ⟨V, rfl, back_same hc.ext, ?_⟩
  have hH2 := hc.H
  subst hH2
  have h1 := hc.rv.frz (ro := C'.ro) hc.rh (Nat.zero_le _) hq
  have hx2 : Ext (C.cut 0 True 0) (C'.cut 0 False C'.ro) := hc.ext.cut (Nat.zero_le _) (Nat.zero_le _) (Nat.zero_le _)
  exact RV.back (Ci := C'.cut 0 False C'.ro) (Nat.zero_le _) hx2 h1 hq

/-! Environments, grown. -/
def nrm : PV → PV
  | .val (.agg a) => .agg (a.toList.map .val)
  | p => p
theorem RV.nrm {P : Program} {C : Ctx} {p : PV} {V : Value} (h : RV P C p V) : RV P C (nrm p) V := by
  unfold Hx.nrm
  split
  · cases h
    refine .agg (by simp) fun j c v h1 h2 => ?_
    simp only [List.getElem?_map, Option.map_eq_some_iff] at h1
    obtain ⟨x, hx, rfl⟩ := h1
    have : x = v := Option.some.inj (hx.symm.trans (by rw [Array.getElem?_toList]; exact h2))
    subst this
    exact .val
  · exact h
theorem Cs.nrm {P : Program} {C : Ctx} {ps : List PV} {Vs : Array Value} (h : Cs P C ps Vs) : Cs P C (ps.map Hx.nrm) Vs := by
  refine ⟨by simpa using h.1, fun j c v h1 h2 => ?_⟩
  simp only [List.getElem?_map, Option.map_eq_some_iff] at h1
  obtain ⟨x, hx, rfl⟩ := h1
  exact (h.2 j x v hx h2).nrm

def EnvK.addO (E : EnvK) (k : FuncId) (c : List PV → Option PV) : EnvK := { E with ora := fun f a => if f = k then c (a.map nrm) else E.ora f a }
def EnvK.addC (E : EnvK) (k : FuncId) (c : Nat → List PV → List Row → Option (DT (PV × List Row))) : EnvK := { E with cal := fun ro f a H => if f = k then c ro a H else E.cal ro f a H }
def EnvK.addL (E : EnvK) (k : FuncId) (i : Nat) (l : List Tmp) (c : Nat → List PV → List Row → Option (DT (PX × List PV × List Row))) : EnvK :=
  { E with live := fun f j => if f = k then (if j = i then some l else E.live f j) else E.live f j
           lo := fun f ro j S H => if f = k then (if j = i then c ro S H else E.lo f ro j S H) else E.lo f ro j S H }
def EnvK.addN (E : EnvK) (k : FuncId) (i : Nat) (l : List (Tmp × TypeId × Nat)) : EnvK := { E with nils := fun f j => if f = k then (if j = i then l else E.nils f j) else E.nils f j }
/-- These functions only read what they are given (a hint: nothing rests on it). -/
def EnvK.addQ (E : EnvK) (k : FuncId) : EnvK := { E with pure := fun f => if f = k then true else E.pure f }
def EnvK.addK (E : EnvK) (k : FuncId) : EnvK := { E with keep := fun f => if f = k then true else E.keep f }

/-- In function k, at the head of region i, the rows from h on are let go. -/
def EnvK.addDrop (E : EnvK) (k : FuncId) (i h : Nat) : EnvK := { E with drop := fun f j => if f = k then (if j = i then some h else E.drop f j) else E.drop f j }

theorem LoH.mono {P : Program} {E E' : Env} {f : FuncId} (h : ∀ ro i S H x S' H', E'.lo f ro i S H = some (x, S', H') → E.lo f ro i S H = some (x, S', H')) : ∀ {c : Code}, LoH P E f c → LoH P E' f c
  | .seq a b, hc => ⟨LoH.mono h (c := a) hc.1, LoH.mono h (c := b) hc.2⟩
  | .cond _ x y, hc => ⟨LoH.mono h (c := x) hc.1, LoH.mono h (c := y) hc.2⟩
  | .block _ b, hc => LoH.mono h (c := b) hc
  | .scope b, hc => LoH.mono h (c := b) hc
  | .loop b, hc => ⟨fun ro S H x S' H' g => hc.1 ro S H x S' H' (h _ _ _ _ _ _ _ g), LoH.mono h (c := b) hc.2⟩
  | .rangeFunc _ _ a b, hc => ⟨LoH.mono h (c := a) hc.1, LoH.mono h (c := b) hc.2⟩
  | .skip, _ | .label _, _ | .region _ _ _, _ | .exit _, _ | .ret, _ | .goto _, _ | .refuse _, _ => trivial

theorem envOK_zero {P : Program} : EnvOK P ({} : EnvK).env where
  ent := fun _ _ _ h => by cases h
  cal := fun _ _ _ _ _ _ h => by cases h
  ora := fun _ _ _ h => by cases h
  lo := fun k fn b _ _ => by
    have : ∀ c : Code, LoH P ({} : EnvK).env k c := by
      intro c
      induction c with
      | seq a b iha ihb => exact ⟨iha, ihb⟩
      | cond c x y ihx ihy => exact ⟨ihx, ihy⟩
      | block i b ih => exact ih
      | scope b ih => exact ih
      | loop b ih => exact ⟨fun _ _ _ _ _ _ h => (by cases h), ih⟩
      | rangeFunc g ps a b iha ihb => exact ⟨iha, ihb⟩
      | _ => trivial
    exact this b
theorem ora_addO {E : EnvK} {k : FuncId} {c : List PV → Option PV} {f : FuncId} {a : List PV} {r : PV} (h : (E.addO k c).env.ora f a = some r) : (f = k ∧ c (a.map nrm) = some r) ∨ E.env.ora f a = some r := by
  change (match E.orD f a with | some d => d.run | none => if f = k then c (a.map nrm) else E.ora f a) = some r at h
  split at h
  · rename_i d hd; exact .inr (ora_orD hd h)
  · rename_i hd
    split at h
    · rename_i e; exact .inl ⟨e, h⟩
    · exact .inr (ora_of hd h)
theorem EnvOK.addO {P : Program} {E : EnvK} (hE : EnvOK P E.env) {k : FuncId} {c : List PV → Option PV} (hc : ∀ args r, c args = some r → Enters P k ∧ PCall P k args r) : EnvOK P (E.addO k c).env where
  ent := fun f a r h => by
    rcases ora_addO h with ⟨e, g⟩ | h
    · subst e; exact (hc _ _ g).1
    · exact hE.ent f a r h
  cal := hE.cal
  ora := fun f a r h => by
    rcases ora_addO h with ⟨e, g⟩ | h
    · subst e
      exact fun C hR Vs hv => (hc _ _ g).2 C hR Vs hv.nrm
    · exact hE.ora f a r h
  lo := fun f fn b h1 h2 => LoH.mono (E := E.env) (E' := (E.addO k c).env) (fun _ _ _ _ _ _ _ h => h) (hE.lo f fn b h1 h2)
/-- Contracts by value, with conditions; slices that the caller owns are lists for them. -/
def EnvK.addF (E : EnvK) (k : FuncId) (c : List PV → Option (DT PV)) : EnvK := { E with orD := fun f a => if f = k then (match c (a.map nrm) with | some d => some d | none => E.orD f a) else E.orD f a }
theorem ora_addF {E : EnvK} {k : FuncId} {c : List PV → Option (DT PV)} {f : FuncId} {a : List PV} {r : PV} (h : (E.addF k c).env.ora f a = some r) : (f = k ∧ ∃ d, c (a.map nrm) = some d ∧ d.run = some r) ∨ E.env.ora f a = some r := by
  change (match (if f = k then (match c (a.map nrm) with | some d => some d | none => E.orD f a) else E.orD f a) with | some d => d.run | none => E.ora f a) = some r at h
  by_cases e : f = k
  · rw [if_pos e] at h
    cases hc : c (a.map nrm) with
    | some d => rw [hc] at h; exact .inl ⟨e, d, rfl, h⟩
    | none => rw [hc] at h; exact .inr h
  · rw [if_neg e] at h; exact .inr h
theorem EnvOK.addF {P : Program} {E : EnvK} (hE : EnvOK P E.env) {k : FuncId} {c : List PV → Option (DT PV)} (hent : Enters P k) (hc : ∀ args d r, c args = some d → d.run = some r → PCall P k args r) : EnvOK P (E.addF k c).env where
  ent := fun f a r h => by
    rcases ora_addF h with ⟨e, _⟩ | h
    · subst e; exact hent
    · exact hE.ent f a r h
  cal := hE.cal
  ora := fun f a r h => by
    rcases ora_addF h with ⟨e, d, h1, h2⟩ | h
    · subst e
      exact fun C hR Vs hv => hc _ _ _ h1 h2 C hR Vs hv.nrm
    · exact hE.ora f a r h
  lo := fun f fn b h1 h2 => LoH.mono (E := E.env) (E' := (E.addF k c).env) (fun _ _ _ _ _ _ _ h => h) (hE.lo f fn b h1 h2)
theorem EnvOK.addC {P : Program} {E : EnvK} (hE : EnvOK P E.env) {k : FuncId} {c : Nat → List PV → List Row → Option (DT (PV × List Row))} (hent : Enters P k)
    (hc : ∀ ro args H d p H', c ro args H = some d → d.run = some (p, H') → RCall P ro k args H p H') : EnvOK P (E.addC k c).env where
  ent := hE.ent
  cal := fun ro f a H p H' h => by
    change (if f = k then c ro a H else E.cal ro f a H).bind DT.run = some (p, H') at h
    split at h
    · rename_i e; subst e
      obtain ⟨d, h1, h2⟩ := Option.bind_eq_some_iff.1 h
      exact ⟨hent, hc _ _ _ _ _ _ h1 h2⟩
    · exact hE.cal ro f a H p H' h
  ora := hE.ora
  lo := fun f fn b h1 h2 => LoH.mono (E := E.env) (E' := (E.addC k c).env) (fun _ _ _ _ _ _ _ h => h) (hE.lo f fn b h1 h2)
/-- The loops of some code. -/
def loops : Code → List Code
  | .seq a b => loops a ++ loops b
  | .cond _ x y => loops x ++ loops y
  | .block _ b => loops b
  | .scope b => loops b
  | .loop b => b :: loops b
  | .rangeFunc _ _ a b => loops a ++ loops b
  | _ => []
theorem LoH.of {P : Program} {E : Env} {f : FuncId} : ∀ {c : Code}, (∀ b, b ∈ loops c → SubC (.loop b) c → ∀ ro S H x S' H', E.lo f ro (rid b) S H = some (x, S', H') → WpTo P (.loop b) ro S H x S' H') → LoH P E f c
  | .seq a b, h => ⟨LoH.of (c := a) fun b hb hs => h b (by simp [loops, hb]) (.seq1 hs), LoH.of (c := b) fun b hb hs => h b (by simp [loops, hb]) (.seq2 hs)⟩
  | .cond _ a b, h => ⟨LoH.of (c := a) fun b hb hs => h b (by simp [loops, hb]) (.cond1 hs), LoH.of (c := b) fun b hb hs => h b (by simp [loops, hb]) (.cond2 hs)⟩
  | .block _ b, h => LoH.of (c := b) fun b hb hs => h b (by simpa [loops] using hb) (.block hs)
  | .scope b, h => LoH.of (c := b) fun b hb hs => h b (by simpa [loops] using hb) (.scope hs)
  | .loop b, h => ⟨h b (by simp [loops]) .here, LoH.of (c := b) fun b hb hs => h b (by simp [loops, hb]) (.loop hs)⟩
  | .rangeFunc _ _ a b, h => ⟨LoH.of (c := a) fun b hb hs => h b (by simp [loops, hb]) (.range1 hs), LoH.of (c := b) fun b hb hs => h b (by simp [loops, hb]) (.range2 hs)⟩
  | .skip, _ | .label _, _ | .region _ _ _, _ | .exit _, _ | .ret, _ | .goto _, _ | .refuse _, _ => trivial
/-- What a loop comes to. -/
theorem EnvOK.addL {P : Program} {E : EnvK} (hE : EnvOK P E.env) {k i : Nat} {l : List Tmp} {c : Nat → List PV → List Row → Option (DT (PX × List PV × List Row))} {fn : Func} {body b0 : Code} (hf : P.funcs[k]? = some fn) (hb : fn.body = some body)
    (h0 : (loops body).filter (fun b => rid b == i) = [b0]) (hc : SubCode P k (.loop b0) → ∀ ro S H d x S' H', c ro S H = some d → d.run = some (x, S', H') → WpTo P (.loop b0) ro S H x S' H') : EnvOK P (E.addL k i l c).env where
  ent := hE.ent
  cal := hE.cal
  ora := hE.ora
  lo := fun f fn' b' h1 h2 => by
    refine LoH.of fun b hm hs ro S H x S' H' g => ?_
    change ((if f = k then (if rid b = i then c ro S H else E.lo f ro (rid b) S H) else E.lo f ro (rid b) S H)).bind DT.run = some (x, S', H') at g
    have old : (E.lo f ro (rid b) S H).bind DT.run = some (x, S', H') → WpTo P (.loop b) ro S H x S' H' := fun g => (LoH.sub (P := P) (E := E.env) hs (hE.lo f fn' b' h1 h2)).1 ro S H x S' H' g
    split at g
    · rename_i e
      subst e
      split at g
      · rename_i e2
        rw [hf] at h1; cases h1
        rw [hb] at h2; cases h2
        have hb0 : b = b0 := by
          have : b ∈ (loops body).filter (fun b => rid b == i) := List.mem_filter.2 ⟨hm, by simp [e2]⟩
          rw [h0] at this
          simpa using this
        subst hb0
        obtain ⟨d, g1, g2⟩ := Option.bind_eq_some_iff.1 g
        exact hc ⟨fn, body, hf, hb, hs⟩ ro S H d x S' H' g1 g2
      · exact old g
    · exact old g
theorem EnvOK.addN {P : Program} {E : EnvK} (hE : EnvOK P E.env) (k : FuncId) (i : Nat) (l : List (Tmp × TypeId × Nat)) : EnvOK P (E.addN k i l).env where
  ent := hE.ent
  cal := hE.cal
  ora := hE.ora
  lo := fun f fn b h1 h2 => LoH.mono (E := E.env) (E' := (E.addN k i l).env) (fun _ _ _ _ _ _ _ h => h) (hE.lo f fn b h1 h2)
theorem EnvOK.addQ {P : Program} {E : EnvK} (hE : EnvOK P E.env) (k : FuncId) : EnvOK P (E.addQ k).env where
  ent := hE.ent
  cal := hE.cal
  ora := hE.ora
  lo := fun f fn b h1 h2 => LoH.mono (E := E.env) (E' := (E.addQ k).env) (fun _ _ _ _ _ _ _ h => h) (hE.lo f fn b h1 h2)
theorem EnvOK.addK {P : Program} {E : EnvK} (hE : EnvOK P E.env) (k : FuncId) : EnvOK P (E.addK k).env where
  ent := hE.ent
  cal := hE.cal
  ora := hE.ora
  lo := fun f fn b h1 h2 => LoH.mono (E := E.env) (E' := (E.addK k).env) (fun _ _ _ _ _ _ _ h => h) (hE.lo f fn b h1 h2)
theorem EnvOK.addDrop {P : Program} {E : EnvK} (hE : EnvOK P E.env) (k : FuncId) (i h : Nat) : EnvOK P (E.addDrop k i h).env where
  ent := hE.ent
  cal := hE.cal
  ora := hE.ora
  lo := fun f fn b h1 h2 => LoH.mono (E := E.env) (E' := (E.addDrop k i h).env) (fun _ _ _ _ _ _ _ h => h) (hE.lo f fn b h1 h2)
end Go.Hx
/- Hx: loops by contract: states by their shapes, the rounds of a loop. -/
namespace Go.Hx

/-! Contracts by value with conditions. -/
def DT.map {α β : Type} (g : α → β) : DT α → DT β
  | .leaf a => .leaf (g a)
  | .no => .no
  | .br b x y => .br b (x.map g) (y.map g)
theorem DT.run_map {α β : Type} {g : α → β} {r : β} : ∀ {d : DT α}, (d.map g).run = some r → ∃ a, d.run = some a ∧ g a = r
  | .leaf a, h => ⟨a, rfl, Option.some.inj h⟩
  | .no, h => by cases h
  | .br b x y, h => by
    cases b
    · exact DT.run_map (d := y) h
    · exact DT.run_map (d := x) h
def EnvK.addD (E : EnvK) (k : FuncId) (c : List PV → Option (DT PV)) : EnvK := E.addC k fun _ a H => (c (a.map nrm)).map fun d => d.map fun p => (p, H)
theorem EnvOK.addD {P : Program} {E : EnvK} (hE : EnvOK P E.env) {k : FuncId} {c : List PV → Option (DT PV)} (hent : Enters P k) (hc : ∀ args d r, c args = some d → d.run = some r → PCall P k args r) : EnvOK P (E.addD k c).env := by
  refine hE.addC hent fun ro args H d p H' h1 h2 => ?_
  obtain ⟨d0, g1, rfl⟩ := Option.map_eq_some_iff.1 h1
  obtain ⟨r, g2, g3⟩ := DT.run_map h2
  cases g3
  intro C hH hro hR Vs hv
  refine (hc _ _ _ g1 g2 C hR Vs hv.nrm).mono ?_
  rintro e w' ⟨V, rfl, hs, hrv⟩
  exact ⟨V, C.at w', rfl, rfl, hH, hs.ext, hs.rh hR, hrv⟩

/-! Shapes of states: what is read out of a state decides it. -/
inductive Lf where
  | i (n : Int) | b (b : Bool) | n (n : Nat) | l (f : Bool) (es : List PV) | t (s : ByteArray)
inductive CS where
  | int (k : IntKind) | bool | lst (t : TypeId) | str
def CS.get : CS → PV → Option Lf
  | .int k, .val (.int k' n) => if k == k' then some (.i n) else none
  | .bool, .val (.bool v) => some (.b v)
  | .lst t, .lst f t' es => if t == t' then some (.l f es) else none
  | .str, .val (.string s) => some (.t s)
  | _, _ => none
def CS.put : CS → Lf → PV
  | .int k, .i n => .val (.int k n)
  | .bool, .b v => .val (.bool v)
  | .lst t, .l f es => .lst f t es
  | .str, .t s => .val (.string s)
  | _, _ => .any
theorem CS.get_put {c : CS} {p : PV} {x : Lf} (h : c.get p = some x) : p = c.put x := by
  unfold CS.get at h
  split at h
  · split at h
    · cases h; simp_all [CS.put]
    · cases h
  · cases h; rfl
  · split at h
    · cases h; simp_all [CS.put]
    · cases h
  · cases h; rfl
  · cases h
theorem CS.inj {c : CS} {p q : PV} {x : Lf} (h : c.get p = some x) (k : c.get q = some x) : p = q := by rw [CS.get_put h, CS.get_put k]
def getCs : List CS → List PV → Option (List Lf)
  | [], [] => some []
  | c :: cs, p :: ps => match c.get p, getCs cs ps with | some x, some xs => some (x :: xs) | _, _ => none
  | _, _ => none
theorem getCs_len : ∀ {cs : List CS} {ps : List PV} {xs : List Lf}, getCs cs ps = some xs → xs.length = cs.length
  | [], [], xs, h => by simp only [getCs, Option.some.injEq] at h; subst h; rfl
  | [], _ :: _, _, h => by simp [getCs] at h
  | _ :: _, [], _, h => by simp [getCs] at h
  | c :: cs, p :: ps, xs, h => by
    simp only [getCs] at h
    split at h
    · rename_i h1 h2; cases h; simp [getCs_len h2]
    · cases h
theorem getCs_inj : ∀ {cs : List CS} {ps qs : List PV} {xs : List Lf}, getCs cs ps = some xs → getCs cs qs = some xs → ps = qs
  | [], [], [], _, _, _ => rfl
  | [], _ :: _, _, _, h, _ => by simp [getCs] at h
  | [], _, _ :: _, _, _, h => by simp [getCs] at h
  | _ :: _, [], _, _, h, _ => by simp [getCs] at h
  | _ :: _, _ :: _, [], _, _, h => by simp [getCs] at h
  | c :: cs, p :: ps, q :: qs, xs, h, k => by
    simp only [getCs] at h k
    split at h
    · rename_i h1 h2
      cases h
      split at k
      · rename_i k1 k2
        cases k
        rw [CS.inj h1 k1, getCs_inj h2 k2]
      · cases k
    · cases h

inductive Sh where
  | any | cell (c : CS) | agg (cs : List CS) | ptr (i n k j : Nat) | sl (i : Nat) | nil
def Sh.len : Sh → Nat
  | .any => 0 | .cell _ => 1 | .agg cs => cs.length | .ptr _ _ _ _ => 0 | .sl _ => 2 | .nil => 0
def Sh.get : Sh → PV → Option (List Lf)
  | .any, .any => some []
  | .cell c, p => (c.get p).map fun x => [x]
  | .agg cs, .agg ps => getCs cs ps
  | .ptr i n k j, .ptr i' n' k' j' => if i == i' && n == n' && k == k' && j == j' then some [] else none
  | .sl i, .sl i' n k l => if i == i' && k == 0 then some [.n n, .n l] else none
  | .nil, .val (.slice none 0 0) => some []
  | _, _ => none
theorem Sh.get_len {s : Sh} {p : PV} {xs : List Lf} (h : s.get p = some xs) : xs.length = s.len := by
  cases s with
  | any => simp only [Sh.get] at h; split at h <;> simp_all [Sh.len]
  | cell c => simp only [Sh.get] at h; obtain ⟨x, _, rfl⟩ := Option.map_eq_some_iff.1 h; rfl
  | agg cs => cases p <;> simp only [Sh.get, reduceCtorEq] at h; exact getCs_len h
  | ptr i n k j => simp only [Sh.get] at h; split at h <;> simp_all [Sh.len]
  | sl i => simp only [Sh.get] at h; split at h <;> simp_all [Sh.len]; rw [← h.2]; rfl
  | nil => unfold Sh.get at h; split at h <;> simp_all [Sh.len]
theorem Sh.get_inj {s : Sh} {p q : PV} {xs : List Lf} (h : s.get p = some xs) (k : s.get q = some xs) : p = q := by
  cases s with
  | any => cases p <;> simp only [Sh.get, reduceCtorEq] at h; cases q <;> simp only [Sh.get, reduceCtorEq] at k; rfl
  | cell c =>
    simp only [Sh.get] at h k
    obtain ⟨x, h1, rfl⟩ := Option.map_eq_some_iff.1 h
    obtain ⟨y, k1, e⟩ := Option.map_eq_some_iff.1 k
    cases e
    exact CS.inj h1 k1
  | agg cs =>
    cases p <;> simp only [Sh.get, reduceCtorEq] at h
    cases q <;> simp only [Sh.get, reduceCtorEq] at k
    rw [getCs_inj h k]
  | ptr i n m j =>
    cases p <;> simp only [Sh.get, reduceCtorEq] at h
    cases q <;> simp only [Sh.get, reduceCtorEq] at k
    split at h
    · split at k
      · simp_all
      · cases k
    · cases h
  | sl i =>
    cases p <;> simp only [Sh.get, reduceCtorEq] at h
    cases q <;> simp only [Sh.get, reduceCtorEq] at k
    split at h
    · split at k
      · have e := (Option.some.inj h).trans (Option.some.inj k).symm
        simp only [List.cons.injEq, Lf.n.injEq, and_true] at e
        simp_all
      · cases k
    · cases h
  | nil =>
    have key : ∀ {p : PV} {xs : List Lf}, Sh.nil.get p = some xs → p = .val (.slice none 0 0) := by
      intro p xs h
      unfold Sh.get at h
      split at h <;> simp_all
    rw [key h, key k]

/-- Rows: with one element; with any number. -/
inductive RS where
  | one (t s : Nat) (h : Sh) | many (t s : Nat) | dead
def RS.len : RS → Nat | .one _ _ h => h.len | .many _ _ => 1 | .dead => 0
def rowBase (r : Row) (t s : Nat) : Bool := r.t == t && r.s == s && r.bv && r.live && r.lp.isNone && !r.fz
def RS.get : RS → Row → Option (List Lf)
  | .one t s h, r => if rowBase r t s && !r.nl then (match r.es with | [e] => h.get e | _ => none) else none
  | .many t s, r => if rowBase r t s then some [.l r.nl r.es] else none
  | .dead, _ => none
theorem RS.get_len {s : RS} {p : Row} {xs : List Lf} (h : s.get p = some xs) : xs.length = s.len := by
  cases s with
  | one t s g =>
    simp only [RS.get] at h
    split at h
    · split at h
      · exact Sh.get_len h
      · cases h
    · cases h
  | many t s =>
    simp only [RS.get] at h
    split at h
    · cases h; rfl
    · cases h
  | dead => simp [RS.get] at h
theorem rowBase_eq {r : Row} {t s : Nat} (h : rowBase r t s = true) : r = { es := r.es, s, t, bv := true, nl := r.nl } := by
  simp only [rowBase, Bool.and_eq_true, beq_iff_eq, Option.isNone_iff_eq_none, Bool.not_eq_true'] at h
  obtain ⟨⟨⟨⟨⟨h1, h2⟩, h3⟩, h4⟩, h5⟩, h6⟩ := h
  cases r
  simp_all
theorem RS.get_inj {s : RS} {p q : Row} {xs : List Lf} (h : s.get p = some xs) (k : s.get q = some xs) : p = q := by
  cases s with
  | one t s g =>
    simp only [RS.get] at h k
    split at h
    · rename_i hb
      split at k
      · rename_i kb
        simp only [Bool.and_eq_true, Bool.not_eq_true'] at hb kb
        split at h
        · rename_i e he
          split at k
          · rename_i f hf
            rw [rowBase_eq hb.1, rowBase_eq kb.1, he, hf, hb.2, kb.2, Sh.get_inj h k]
          · cases k
        · cases h
      · cases k
    · cases h
  | many t s =>
    simp only [RS.get] at h k
    split at h
    · rename_i hb
      split at k
      · rename_i kb
        have e := (Option.some.inj h).trans (Option.some.inj k).symm
        simp only [List.cons.injEq, Lf.l.injEq, and_true] at e
        rw [rowBase_eq hb, rowBase_eq kb, e.1, e.2]
      · cases k
    · cases h
  | dead => simp [RS.get] at h

def getS (shs : List (Nat × Sh)) : Nat → Nat → List PV → Option (List Lf)
  | 0, _, [] => some []
  | n + 1, x, p :: S =>
    match ((shs.lookup x).getD .any).get p, getS shs n (x + 1) S with
    | some a, some b => some (a ++ b)
    | _, _ => none
  | _, _, _ => none
theorem getS_inj {shs : List (Nat × Sh)} : ∀ {n x : Nat} {S T : List PV} {xs : List Lf}, getS shs n x S = some xs → getS shs n x T = some xs → S = T
  | 0, _, [], [], _, _, _ => rfl
  | 0, _, _ :: _, _, _, h, _ => by simp [getS] at h
  | 0, _, _, _ :: _, _, _, h => by simp [getS] at h
  | _ + 1, _, [], _, _, h, _ => by simp [getS] at h
  | _ + 1, _, _ :: _, [], _, _, h => by simp [getS] at h
  | n + 1, x, p :: S, q :: T, xs, h, k => by
    simp only [getS] at h k
    split at h
    · rename_i a b h1 h2
      split at k
      · rename_i a' b' k1 k2
        cases h
        have he := Option.some.inj k
        obtain ⟨e1, e2⟩ := List.append_inj he (by rw [Sh.get_len k1, Sh.get_len h1])
        subst e1; subst e2
        rw [Sh.get_inj h1 k1, getS_inj h2 k2]
      · cases k
    · cases h
def getH : List RS → List Row → Option (List Lf)
  | [], [] => some []
  | s :: ss, r :: H => match s.get r, getH ss H with | some a, some b => some (a ++ b) | _, _ => none
  | _, _ => none
theorem getH_inj : ∀ {ss : List RS} {H K : List Row} {xs : List Lf}, getH ss H = some xs → getH ss K = some xs → H = K
  | [], [], [], _, _, _ => rfl
  | [], _ :: _, _, _, h, _ => by simp [getH] at h
  | [], _, _ :: _, _, _, h => by simp [getH] at h
  | _ :: _, [], _, _, h, _ => by simp [getH] at h
  | _ :: _, _ :: _, [], _, _, h => by simp [getH] at h
  | s :: ss, p :: S, q :: T, xs, h, k => by
    simp only [getH] at h k
    split at h
    · rename_i a b h1 h2
      split at k
      · rename_i a' b' k1 k2
        cases h
        have he := Option.some.inj k
        obtain ⟨e1, e2⟩ := List.append_inj he (by rw [RS.get_len k1, RS.get_len h1])
        subst e1; subst e2
        rw [RS.get_inj h1 k1, getH_inj h2 k2]
      · cases k
    · cases h
/-- A state's shape. -/
structure St where
  n : Nat
  S : List (Nat × Sh)
  H : List RS
def St.get (s : St) (S : List PV) (H : List Row) : Option (List Lf × List Lf) :=
  match getS s.S s.n 0 S, getH s.H H with | some a, some b => some (a, b) | _, _ => none
theorem St.inj {s : St} {S T : List PV} {H K : List Row} {x : List Lf × List Lf} (h : s.get S H = some x) (k : s.get T K = some x) : S = T ∧ H = K := by
  unfold St.get at h k
  split at h
  · rename_i h1 h2
    split at k
    · rename_i k1 k2
      cases h
      cases k
      exact ⟨getS_inj h1 k1, getH_inj h2 k2⟩
    · cases k
  · cases h
/-- Slots: these, else nothing is known. -/
def tm (n : Nat) (l : List (Nat × PV)) : List PV := (List.range n).map fun x => (l.lookup x).getD .any
/-- A row with one element. -/
abbrev r1 (t s : Nat) (e : PV) : Row := { es := [e], s, t, bv := true }
abbrev rN (t s : Nat) (nl : Bool) (es : List PV) : Row := { es, s, t, bv := true, nl }

/-- Rows, their elements written out. -/
def nrmRow (r : Row) : Row := match r.live with | true => { r with es := r.es.map nrm } | false => r
def nrmH (H : List Row) : List Row := H.map nrmRow
theorem nrm_cells (p : PV) : (nrm p).cells = p.cells := by
  unfold nrm
  split
  · rfl
  · rfl
theorem nrmRow_live (r : Row) : (nrmRow r).live = r.live := by unfold nrmRow; split <;> simp_all
theorem nrmRow_shp (r : Row) : ShpR r (nrmRow r) := by unfold nrmRow; split <;> simp [ShpR]
theorem nrm_row {C : Ctx} (i : Nat) : ({ C with H := nrmH C.H } : Ctx).row? i = (C.row? i).map nrmRow := by
  show rowAt (nrmH C.H) i = (rowAt C.H i).map nrmRow
  unfold rowAt nrmH
  rw [List.getElem?_map]
  cases C.H[i]? with
  | none => rfl
  | some r =>
    show (if (nrmRow r).live = true then some (nrmRow r) else none) = Option.map _ (if r.live = true then some r else none)
    rw [nrmRow_live]
    by_cases hl : r.live = true
    · rw [if_pos hl, if_pos hl]; rfl
    · rw [if_neg hl, if_neg hl]; rfl
theorem nrm_shp (C : Ctx) : Shp C { C with H := nrmH C.H } := by
  refine ⟨rfl, rfl, rfl, rfl, by simp [nrmH], fun i r' hr => ?_, fun i r hr => ?_, fun i r hr hl => ?_, fun i r hr hl => ?_⟩
  · rw [nrm_row] at hr
    obtain ⟨r, a, rfl⟩ := Option.map_eq_some_iff.1 hr
    exact ⟨r, a, nrmRow_shp r⟩
  · exact ⟨_, by rw [nrm_row, hr]; rfl, nrmRow_shp r⟩
  · show (nrmH C.H)[i]? = _
    unfold nrmH
    rw [List.getElem?_map, hr, Option.map_some]
    unfold nrmRow; rw [hl]
  · have hr' : (nrmH C.H)[i]? = some r := hr
    unfold nrmH at hr'
    rw [List.getElem?_map] at hr'
    obtain ⟨q, a, b⟩ := Option.map_eq_some_iff.1 hr'
    have : q.live = false := by rw [← nrmRow_live, b]; exact hl
    unfold nrmRow at b
    rw [this] at b
    rw [a]
    exact congrArg some b
theorem RB.nrm {P : Program} {C : Ctx} {b : Nat} {r : Row} (h : RB P C b r) : RB P C b (nrmRow r) := by
  unfold nrmRow
  split
  · obtain ⟨c, fr, cv, m1, m2, m3, m4⟩ := h.mem
    refine ⟨h.sz, ⟨c, fr, cv, m1, m2, by simpa using m3, fun k e j p hk hj => ?_⟩, fun e he => ?_, fun hb e he => ?_⟩
    · simp only [List.getElem?_map, Option.map_eq_some_iff] at hk
      obtain ⟨e0, hk0, rfl⟩ := hk
      rw [nrm_cells] at hj
      exact m4 k e0 j p hk0 hj
    · simp only [List.mem_map] at he
      obtain ⟨e0, he0, rfl⟩ := he
      rw [nrm_cells]; exact h.len e0 he0
    · simp only [List.mem_map] at he
      obtain ⟨e0, he0, rfl⟩ := he
      have := h.typed hb e0 he0
      simp only [wt, nrm_cells] at this ⊢
      exact this
  · exact h
theorem Ext.shp0 {C C1 C' : Ctx} (h : Shp C C1) (hro : C.ro = 0) (hx : Ext C1 C') : Ext C C' := by
  have own : ∀ b, C1.own b → C.own b := by
    rintro b ⟨i, hi, hb⟩
    exact ⟨i, by rw [← h.ro]; exact hi, by rw [← h.ρ]; exact hb⟩
  have own' : ∀ b, C.own b → C1.own b := by
    rintro b ⟨i, hi, hb⟩
    exact ⟨i, by rw [h.ro]; exact hi, by rw [h.ρ]; exact hb⟩
  refine ⟨by rw [hx.os, h.w], by rw [hx.tape, h.w], by rw [hx.output, h.w], by rw [← h.w]; exact hx.size, fun b hb ho => by rw [← h.w] at hb ⊢; exact hx.block b hb fun hh => ho (own b hh), fun b c e fr hb => hx.shape b c e fr (by rw [h.w]; exact hb), by rw [← h.len]; exact hx.len,
    fun i r' hi hr => ?_, fun b hb => ?_, fun b hb => ?_, by rw [hx.fo, h.fo], by rw [hx.ro, h.ro], fun i hi => (by rw [hro] at hi; cases hi), fun i r info h1 h2 h3 => ?_, fun b rec hb => hx.loop b rec (by rw [h.w]; exact hb)⟩
  · obtain ⟨r1, a1, a2, a3, a4, a5⟩ := hx.rows i r' (by rw [h.len]; exact hi) hr
    obtain ⟨r, b1, c1, c2, c3, c4⟩ := h.row i r1 a1
    exact ⟨r, b1, c1.trans a2, c4.trans a3, by omega, fun e => ⟨c3.trans (a5 (by omega)).1, fun b hb => (a5 (by omega)).2 b (by rw [h.ρ]; exact hb)⟩⟩
  · rcases hx.fresh b hb with ⟨i, hi⟩ | hs
    · exact .inl ⟨i, by rw [← h.ρ]; exact hi⟩
    · exact .inr (by rw [← h.w]; exact hs)
  · rcases hx.freshOwn b hb with ho | hs
    · exact .inl (own b ho)
    · exact .inr (by rw [← h.w]; exact hs)
  · obtain ⟨g1, g2⟩ := hx.lp i r info (h.lp i r h1 h3) h2 h3
    exact ⟨g1, fun b hb => g2 b (by rw [h.ρ]; exact hb)⟩
theorem wpTo_nrm {P : Program} {c : Code} {S S' : List PV} {H H' : List Row} {x : PX} (h : WpTo P c 0 S (nrmH H) x S' H') : WpTo P c 0 S H x S' H' := by
  intro r C a hH hro hR hs hro2 Q hQ
  subst hH
  have hR1 : RH P { C with H := nrmH C.H } := hR.shp (nrm_shp C) fun i b q h1 h2 => by
    rw [nrm_row] at h2
    obtain ⟨q0, a0, rfl⟩ := Option.map_eq_some_iff.1 h2
    exact ((hR.blk i b q0 h1 a0).nrm).shp (nrm_shp C)
  exact h r { C with H := nrmH C.H } a rfl hro hR1 (hs.shp (nrm_shp C)) hro2 Q fun a' C' hd hH' hx hR' hs' => hQ a' C' hd hH' (Ext.shp0 (nrm_shp C) hro hx) hR' hs'

/-- A loop's contract by the shape of its state. -/
def byShape (s : St) (f : List Lf → List Lf → Option (DT (PX × List PV × List Row))) (ro : Nat) (S : List PV) (H : List Row) : Option (DT (PX × List PV × List Row)) :=
  match ro with
  | 0 => match s.get S (nrmH H) with | some x => f x.1 x.2 | none => none
  | _ + 1 => none

/-! The rounds of a loop. -/
theorem rounds_of {P : Program} {b : Code} {ro : Nat} {x : PX} {S' : List PV} {H' : List Row} (hx : x ≠ .normal) : ∀ (n : Nat) (Sf : Nat → List PV) (Hf : Nat → List Row), (∀ k, k < n → WpTo P b ro (Sf k) (Hf k) .normal (Sf (k + 1)) (Hf (k + 1))) → WpTo P b ro (Sf n) (Hf n) x S' H' →
    ∀ (r : Option Nat) (C : Ctx) (a : Act), C.H = Hf 0 → C.ro = ro → RH P C → RSl P C (Sf 0) a.tmps → RoundOK r C.w → ∀ Q : Exit → Act → World → Prop,
      (∀ (a' : Act) (C' : Ctx), Dfs C.w a C'.w a' → C'.H = H' → Ext C C' → RH P C' → RSl P C' S' a'.tmps → Q (XOut x) a' C'.w) → Code.roundsIn (Fr r) 0 P b Q (n + 1) a C.w
  | 0, Sf, Hf, _, hl => by
    intro r C a hH hro hR hs hro2 Q hQ
    rw [roundsIn_succ]
    refine hl r C a hH hro hR hs hro2 _ fun a' C' hd hH' hxt hR' hs' => ?_
    have hq := hQ a' C' hd hH' hxt hR' hs'
    cases x with
    | normal => exact absurd rfl hx
    | exit id => exact hq
    | ret => exact hq
  | n + 1, Sf, Hf, h, hl => by
    intro r C a hH hro hR hs hro2 Q hQ
    rw [roundsIn_succ]
    refine h 0 (by omega) r C a hH hro hR hs hro2 _ fun a' C' hd hH' hxt hR' hs' => ?_
    show Code.roundsIn (Fr r) 0 P b Q (n + 1) a' C'.w
    exact rounds_of hx n (fun k => Sf (k + 1)) (fun k => Hf (k + 1)) (fun k hk => h (k + 1) (by omega)) hl r C' a' hH' (by rw [hxt.ro]; exact hro) hR' hs' (hro2.mono hxt) Q fun a2 C2 hd2 hH2 hx2 hR2 hs2 => hQ a2 C2 (hd.trans hxt.size hR' hx2 hd2) hH2 (hxt.trans hx2) hR2 hs2
theorem loop_of {P : Program} {b : Code} {ro : Nat} {x : PX} {S' : List PV} {H' : List Row} (hx : x ≠ .normal) (n : Nat) (Sf : Nat → List PV) (Hf : Nat → List Row) (h : ∀ k, k < n → WpTo P b ro (Sf k) (Hf k) .normal (Sf (k + 1)) (Hf (k + 1))) (hl : WpTo P b ro (Sf n) (Hf n) x S' H') :
    WpTo P (.loop b) ro (Sf 0) (Hf 0) x S' H' :=
  fun r C a hH hro hR hs hro2 Q hQ => wpIn_loop_rounds (n + 1) (rounds_of hx n Sf Hf h hl r C a hH hro hR hs hro2 Q hQ)
/-- One round, then the rest. -/
theorem loop_go {P : Program} {b : Code} {ro : Nat} {x : PX} {S S1 S' : List PV} {H H1 H' : List Row} (h : WpTo P b ro S H .normal S1 H1) (k : ∃ n, ∃ Sf : Nat → List PV, ∃ Hf : Nat → List Row, Sf 0 = S1 ∧ Hf 0 = H1 ∧ (∀ k, k < n → WpTo P b ro (Sf k) (Hf k) .normal (Sf (k + 1)) (Hf (k + 1))) ∧ WpTo P b ro (Sf n) (Hf n) x S' H') :
    ∃ n, ∃ Sf : Nat → List PV, ∃ Hf : Nat → List Row, Sf 0 = S ∧ Hf 0 = H ∧ (∀ k, k < n → WpTo P b ro (Sf k) (Hf k) .normal (Sf (k + 1)) (Hf (k + 1))) ∧ WpTo P b ro (Sf n) (Hf n) x S' H' := by
  obtain ⟨n, Sf, Hf, e1, e2, g1, g2⟩ := k
  refine ⟨n + 1, fun k => match k with | 0 => S | k + 1 => Sf k, fun k => match k with | 0 => H | k + 1 => Hf k, rfl, rfl, fun k hk => ?_, g2⟩
  match k with
  | 0 => show WpTo P b ro S H .normal (Sf 0) (Hf 0); rw [e1, e2]; exact h
  | k + 1 => exact g1 k (by omega)
/-- What a loop comes to, by its rounds. -/
inductive Rnds (P : Program) (b : Code) (ro : Nat) (x : PX) (S' : List PV) (H' : List Row) : List PV → List Row → Prop
  | stop {S : List PV} {H : List Row} (h : WpTo P b ro S H x S' H') : Rnds P b ro x S' H' S H
  | go {S S1 : List PV} {H H1 : List Row} (h : WpTo P b ro S H .normal S1 H1) (k : Rnds P b ro x S' H' S1 H1) : Rnds P b ro x S' H' S H
theorem Rnds.loop {P : Program} {b : Code} {ro : Nat} {x : PX} {S S' : List PV} {H H' : List Row} (hx : x ≠ .normal) (h : Rnds P b ro x S' H' S H) : WpTo P (.loop b) ro S H x S' H' := by
  have : ∃ n, ∃ Sf : Nat → List PV, ∃ Hf : Nat → List Row, Sf 0 = S ∧ Hf 0 = H ∧ (∀ k, k < n → WpTo P b ro (Sf k) (Hf k) .normal (Sf (k + 1)) (Hf (k + 1))) ∧ WpTo P b ro (Sf n) (Hf n) x S' H' := by
    induction h with
    | stop h => exact ⟨0, fun _ => _, fun _ => _, rfl, rfl, fun k hk => by omega, h⟩
    | go h _ ih => exact loop_go h ih
  obtain ⟨n, Sf, Hf, rfl, rfl, g1, g2⟩ := this
  exact loop_of hx n Sf Hf g1 g2

theorem trimF_sound {P : Program} {C : Ctx} (hR : RH P C) {S : List PV} {t : Array Value} {h ro : Nat} (hh : h ≤ C.H.length) (hs : RSl P C S t) : RSl P (C.cut h False ro) (trimS h (frzs C.H h S)) t := by
  refine ⟨by simp [trimS, frzs_length]; exact hs.1, fun i p v h1 h2 => ?_⟩
  simp only [trimS, List.getElem?_map, Option.map_eq_some_iff] at h1
  obtain ⟨q, hq, rfl⟩ := h1
  rw [frzs_get] at hq
  obtain ⟨q0, hq0, rfl⟩ := Option.map_eq_some_iff.1 hq
  split
  · rename_i hm; exact (hs.2 i q0 v hq0 h2).frz hR hh hm
  · exact .any
/-- A round, its new rows let go (slices of them are lists from there on): what it comes to. -/
def runB (P : Program) (E : EnvK) (n : Nat) (f : FuncId) (b : Code) (l l' : List Tmp) (S : List PV) (H : List Row) : Option (PX × List PV × List Row) :=
  execK P E n 0 f b S H fun x S1 H1 =>
    need (decide (H.length ≤ H1.length) && rowsOk H.length (H1.take H.length))
      (match x with
      | .normal => frzsK H1 H.length (keepS (some l) S1) fun S2 => some (.normal, trimS H.length S2, H1.take H.length)
      | .exit i => frzsK H1 H.length (keepS (some l') S1) fun S2 => some (.exit i, trimS H.length S2, H1.take H.length)
      | .ret => frzsK H1 H.length (keepS (some l') S1) fun S2 => some (.ret, trimS H.length S2, H1.take H.length))
theorem runB_sound {P : Program} {E : EnvK} (hE : EnvOK P E.env) {n : Nat} {f : FuncId} {b : Code} {l l' : List Tmp} {S S' : List PV} {H H' : List Row} {x : PX} (hb : SubCode P f b) (h : runB P E n f b l l' S H = some (x, S', H')) : WpTo P b 0 S H x S' H' := by
  obtain ⟨x1, S1, H1, h1, h2⟩ := execK_ref n _ _ _ _ _ _ _ h
  obtain ⟨h3, h4⟩ := need_some h2
  simp only [Bool.and_eq_true, decide_eq_true_eq] at h3
  have hw := exec_ok hE n _ _ _ _ _ _ _ _ h1 hb
  have key : ∀ L : List Tmp, S' = trimS H.length (frzs H1 H.length (keepS (some L) S1)) → H' = H1.take H.length → WpTo P b 0 S H x1 S' H' := by
    rintro L rfl rfl
    intro r C a hH hro hR hs hro2 Q hQ
    refine hw r C a hH hro hR hs hro2 Q fun a' C' hd hH' hxt hR' hs' => ?_
    subst hH
    subst hH'
    exact hQ a' (C'.cut C.H.length False C'.ro) hd rfl (hxt.cut (Nat.le_refl _) h3.1 hR.ro) (hR'.cut h3.1 (by rw [hxt.ro]; exact hR.ro) h3.2) (trimF_sound hR' h3.1 (keepS_sound (some L) hs'))
  cases x1 with
  | normal => cases frzsK_some h4; exact key l rfl rfl
  | exit i => cases frzsK_some h4; exact key l' rfl rfl
  | ret => cases frzsK_some h4; exact key l' rfl rfl
end Go.Hx
/- Hx: a loop's contract by a model of its rounds: states of a type, what one round does, what all come to. -/
namespace Go.Hx
noncomputable def bod (fn : Func) : Code := fn.body.getD .skip
noncomputable def lpb (fn : Func) (i : Nat) : Code := ((loops (bod fn)).filter fun b => rid b == i).headD .skip
theorem byShape_inv {s : St} {f : List Lf → List Lf → Option (DT (PX × List PV × List Row))} {ro : Nat} {S : List PV} {H : List Row} {d : DT (PX × List PV × List Row)} (h : byShape s f ro S H = some d) : ∃ a b, ro = 0 ∧ s.get S (nrmH H) = some (a, b) ∧ f a b = some d := by
  unfold byShape at h
  split at h
  · split at h
    · rename_i x hx; exact ⟨x.1, x.2, rfl, hx, h⟩
    · cases h
  · cases h
theorem run_br {α : Type} {b : Bool} {a r : α} (h : (DT.br b (.leaf a) .no).run = some r) : b = true ∧ a = r := by
  cases b
  · cases h
  · exact ⟨rfl, Option.some.inj h⟩
abbrev i64 : Sh := .cell (.int .i64)
abbrev i64s (n : Nat) : Sh := .agg (List.replicate n (.int .i64))

/-! Rows, some of them written out. -/
def nrmIf (b : Bool) (r : Row) : Row := match b with | true => nrmRow r | false => r
def nrmA (sel : List Bool) (H : List Row) : List Row := H.zipIdx.map fun x => nrmIf (sel.getD x.2 false) x.1
theorem nrmA_get (sel : List Bool) (H : List Row) (i : Nat) : (nrmA sel H)[i]? = H[i]?.map (nrmIf (sel.getD i false)) := by
  simp only [nrmA, List.getElem?_map, List.getElem?_zipIdx, Nat.zero_add, Option.map_map]
  congr 1
theorem nrmIf_live (b : Bool) (r : Row) : (nrmIf b r).live = r.live := by cases b <;> simp [nrmIf, nrmRow_live]
theorem nrmIf_shp (b : Bool) (r : Row) : ShpR r (nrmIf b r) := by
  cases b
  · exact ⟨rfl, rfl, rfl, rfl⟩
  · exact nrmRow_shp r
theorem nrmIf_dead {b : Bool} {r : Row} (h : r.live = false) : nrmIf b r = r := by
  cases b
  · rfl
  · show nrmRow r = r
    unfold nrmRow; rw [h]
theorem nrmA_row {C : Ctx} (sel : List Bool) (i : Nat) : ({ C with H := nrmA sel C.H } : Ctx).row? i = (C.row? i).map (nrmIf (sel.getD i false)) := by
  show rowAt (nrmA sel C.H) i = (rowAt C.H i).map _
  unfold rowAt
  rw [nrmA_get]
  cases C.H[i]? with
  | none => rfl
  | some r =>
    show (if (nrmIf _ r).live = true then some (nrmIf _ r) else none) = Option.map _ (if r.live = true then some r else none)
    rw [nrmIf_live]
    by_cases hl : r.live = true
    · rw [if_pos hl, if_pos hl]; rfl
    · rw [if_neg hl, if_neg hl]; rfl
theorem nrmA_shp (sel : List Bool) (C : Ctx) : Shp C { C with H := nrmA sel C.H } := by
  refine ⟨rfl, rfl, rfl, rfl, by simp [nrmA], fun i r' hr => ?_, fun i r hr => ?_, fun i r hr hl => ?_, fun i r hr hl => ?_⟩
  · rw [nrmA_row] at hr
    obtain ⟨r, a, rfl⟩ := Option.map_eq_some_iff.1 hr
    exact ⟨r, a, nrmIf_shp _ r⟩
  · exact ⟨_, by rw [nrmA_row, hr]; rfl, nrmIf_shp _ r⟩
  · show (nrmA sel C.H)[i]? = _
    rw [nrmA_get, hr, Option.map_some, nrmIf_dead hl]
  · have hr' : (nrmA sel C.H)[i]? = some r := hr
    rw [nrmA_get] at hr'
    obtain ⟨q, a, b⟩ := Option.map_eq_some_iff.1 hr'
    have : q.live = false := by rw [← nrmIf_live (sel.getD i false), b]; exact hl
    rw [nrmIf_dead this] at b
    rw [a]
    exact congrArg some b
theorem wpTo_nrmA {P : Program} {c : Code} (sel : List Bool) {S S' : List PV} {H H' : List Row} {x : PX} (h : WpTo P c 0 S (nrmA sel H) x S' H') : WpTo P c 0 S H x S' H' := by
  intro r C a hH hro hR hs hro2 Q hQ
  subst hH
  have hR1 : RH P { C with H := nrmA sel C.H } := hR.shp (nrmA_shp sel C) fun i b q h1 h2 => by
    rw [nrmA_row] at h2
    obtain ⟨q0, a0, rfl⟩ := Option.map_eq_some_iff.1 h2
    have hB := hR.blk i b q0 h1 a0
    have hB2 : RB P C b (nrmIf (sel.getD i false) q0) := by
      cases sel.getD i false
      · exact hB
      · exact hB.nrm
    exact hB2.shp (nrmA_shp sel C)
  exact h r { C with H := nrmA sel C.H } a rfl hro hR1 (hs.shp (nrmA_shp sel C)) hro2 Q fun a' C' hd hH' hx hR' hs' => hQ a' C' hd hH' (Ext.shp0 (nrmA_shp sel C) hro hx) hR' hs'

/-- What a loop comes to, by the states of a model: those with 'pre' come to 'fin'; 'sel': the rows that are written out first. -/
def byModel {σ : Type} (sel : List Bool) (get : List PV → List Row → Option σ) (pre : σ → Bool) (fin : σ → DT (PX × List PV × List Row)) : Nat → List PV → List Row → Option (DT (PX × List PV × List Row))
  | 0, S, H => match get S (nrmA sel H) with | some s => some (.br (pre s) (fin s) .no) | none => none
  | _ + 1, _, _ => none
/-- States by one shape; by either. -/
def ofSt {σ : Type} (sh : St) (dec : List Lf → List Lf → Option σ) (S : List PV) (H : List Row) : Option σ := match sh.get S H with | some x => dec x.1 x.2 | none => none
def orGet {σ : Type} (g g' : List PV → List Row → Option σ) (S : List PV) (H : List Row) : Option σ := match g S H with | some s => some s | none => g' S H
theorem ofSt_emb {σ : Type} {sh : St} {dec : List Lf → List Lf → Option σ} {emb : σ → List PV × List Row} (hdec : ∀ x y s, dec x y = some s → sh.get (emb s).1 (emb s).2 = some (x, y)) : ∀ S H s, ofSt sh dec S H = some s → S = (emb s).1 ∧ H = (emb s).2 := by
  intro S H s h
  unfold ofSt at h
  split at h
  · rename_i x hx; exact St.inj hx (hdec _ _ _ h)
  · cases h
theorem orGet_emb {σ : Type} {g g' : List PV → List Row → Option σ} {emb : σ → List PV × List Row} (h1 : ∀ S H s, g S H = some s → S = (emb s).1 ∧ H = (emb s).2) (h2 : ∀ S H s, g' S H = some s → S = (emb s).1 ∧ H = (emb s).2) : ∀ S H s, orGet g g' S H = some s → S = (emb s).1 ∧ H = (emb s).2 := by
  intro S H s h
  unfold orGet at h
  split at h
  · rename_i s1 hs; cases h; exact h1 _ _ _ hs
  · exact h2 _ _ _ h

theorem loopW {P : Program} {E : EnvK} (hE : EnvOK P E.env) {n : Nat} {f : FuncId} {b : Code} (l l' : List Tmp) {σ : Type} {sel : List Bool} (emb : σ → List PV × List Row) {get : List PV → List Row → Option σ}
    (hget : ∀ S H s, get S H = some s → S = (emb s).1 ∧ H = (emb s).2) {pre : σ → Bool} (m : σ → Nat) {fin : σ → DT (PX × List PV × List Row)}
    (hstep : ∀ s r, pre s = true → (fin s).run = some r → r.1 ≠ .normal ∧ (runB P E n f b l l' (emb s).1 (emb s).2 = some r ∨
      ∃ s', runB P E n f b l l' (emb s).1 (emb s).2 = some (.normal, emb s') ∧ pre s' = true ∧ m s' < m s ∧ (fin s').run = some r)) :
    SubCode P f (.loop b) → ∀ (ro : Nat) (S : List PV) (H : List Row) (d : DT (PX × List PV × List Row)) (x : PX) (S' : List PV) (H' : List Row), byModel sel get pre fin ro S H = some d → d.run = some (x, S', H') → WpTo P (.loop b) ro S H x S' H' := by
  intro hsub ro S H d x S' H' hc hd
  cases ro with
  | succ ro => cases hc
  | zero =>
  change (match get S (nrmA sel H) with | some s => some (DT.br (pre s) (fin s) DT.no) | none => none) = some d at hc
  split at hc
  · rename_i s hs
    obtain rfl := Option.some.inj hc
    obtain ⟨e1, e2⟩ := hget _ _ _ hs
    have hp : pre s = true ∧ (fin s).run = some (x, S', H') := by
      change (match pre s with | true => (fin s).run | false => DT.no.run) = _ at hd
      cases hq : pre s with
      | true => rw [hq] at hd; exact ⟨rfl, hd⟩
      | false => rw [hq] at hd; cases hd
    obtain ⟨hp, hr⟩ := hp
    clear hc hd hs
    have hbody := hsub.sub (.loop .here)
    refine wpTo_nrmA sel ?_
    rw [e2, e1]
    clear e1 e2
    have hx := (hstep s _ hp hr).1
    refine Rnds.loop hx ?_
    generalize hm : m s = k
    induction k using Nat.strongRecOn generalizing s with
    | _ k ih =>
      rcases (hstep s _ hp hr).2 with h1 | ⟨s', h1, h2, h3, h4⟩
      · exact .stop (runB_sound hE hbody h1)
      · exact .go (runB_sound hE hbody h1) (ih (m s') (by omega) s' h2 h4 rfl)
  · cases hc

/-- The function's loop with this number: what it comes to. -/
theorem EnvOK.addM {P : Program} {E : EnvK} (hE : EnvOK P E.env) {n : Nat} {k i : Nat} {fn : Func} {body b : Code} (hf : P.funcs[k]? = some fn) (hb : fn.body = some body) (h0 : (loops body).filter (fun b => rid b == i) = [b])
    (l l' : List Tmp) {σ : Type} {sel : List Bool} (emb : σ → List PV × List Row) {get : List PV → List Row → Option σ}
    (hget : ∀ S H s, get S H = some s → S = (emb s).1 ∧ H = (emb s).2) {pre : σ → Bool} (m : σ → Nat) {fin : σ → DT (PX × List PV × List Row)}
    (hstep : ∀ s r, pre s = true → (fin s).run = some r → r.1 ≠ .normal ∧ (runB P E n k b l l' (emb s).1 (emb s).2 = some r ∨
      ∃ s', runB P E n k b l l' (emb s).1 (emb s).2 = some (.normal, emb s') ∧ pre s' = true ∧ m s' < m s ∧ (fin s').run = some r)) :
    EnvOK P (E.addL k i l (byModel sel get pre fin)).env :=
  hE.addL hf hb h0 fun hs ro S H d x S' H' => loopW hE l l' emb hget m hstep hs ro S H d x S' H'
end Go.Hx
/- Hx: contracts of calls that see only the rows whose pointers they get. -/
namespace Go.Hx

/-- Where an index stands in a list of rows. -/
def posOf : List Nat → Nat → Option Nat
  | [], _ => none
  | k :: ks, i => match k == i with | true => some 0 | false => (posOf ks i).map (· + 1)
theorem posOf_get : ∀ {K : List Nat} {i j : Nat}, posOf K i = some j → K[j]? = some i
  | [], i, j, h => by simp [posOf] at h
  | k :: ks, i, j, h => by
    simp only [posOf] at h
    split at h
    · rename_i hk; cases h; simpa using hk
    · obtain ⟨m, hm, rfl⟩ := Option.map_eq_some_iff.1 h
      simpa using posOf_get hm
theorem posOf_none : ∀ {K : List Nat} {i : Nat}, posOf K i = none → i ∉ K
  | [], i, _ => by simp
  | k :: ks, i, h => by
    simp only [posOf] at h
    split at h
    · cases h
    · rename_i hk
      have : posOf ks i = none := by simpa using h
      have h1 := posOf_none this
      have h2 : k ≠ i := by simpa using hk
      simp only [List.mem_cons, not_or]
      exact ⟨fun e => h2 e.symm, h1⟩
theorem posOf_of {K : List Nat} (hn : K.Nodup) {i j : Nat} (h : K[j]? = some i) : posOf K i = some j := by
  cases hp : posOf K i with
  | none => exact absurd (List.mem_of_getElem? h) (posOf_none hp)
  | some m =>
    have := posOf_get hp
    have e := (List.getElem?_inj (List.getElem?_eq_some_iff.1 h).1 hn).1 (h.trans this.symm)
    rw [e]

/-- Only these rows, in this order. -/
def Ctx.pick (C : Ctx) (K : List Nat) (Hs : List Row) (m : Nat) : Ctx :=
  { ρ := fun j => (K[j]?).bind C.ρ, H := Hs, w := C.w, fo := fun b => C.fo b ∨ ∃ i, i ∉ K ∧ C.ρ i = some b, ro := m }
/-- The first m are read alone. -/
structure Picks (C : Ctx) (K : List Nat) (Hs : List Row) (m : Nat) : Prop where
  nodup : K.Nodup
  len : Hs.length = K.length
  get : ∀ (j : Nat) i, K[j]? = some i → C.H[i]? = Hs[j]? ∧ (m ≤ j → C.ro ≤ i)
  most : m ≤ Hs.length
theorem Picks.lt {C : Ctx} {K : List Nat} {Hs : List Row} {m : Nat} (h : Picks C K Hs m) {i : Nat} (hi : i ∈ K) : i < C.H.length := by
  obtain ⟨j, hj⟩ := List.getElem?_of_mem hi
  have h1 := (h.get j i hj).1
  have h2 : j < Hs.length := by rw [h.len]; exact (List.getElem?_eq_some_iff.1 hj).1
  rw [List.getElem?_eq_getElem h2] at h1
  exact (List.getElem?_eq_some_iff.1 h1).1
theorem pick_row {C : Ctx} {K : List Nat} {Hs : List Row} {m : Nat} (h : Picks C K Hs m) {j i : Nat} (hj : K[j]? = some i) : (C.pick K Hs m).row? j = C.row? i := by
  show rowAt Hs j = rowAt C.H i
  unfold rowAt
  rw [(h.get j i hj).1]
theorem pick_idx {C : Ctx} {K : List Nat} {Hs : List Row} {m : Nat} (h : Picks C K Hs m) {j : Nat} {r : Row} (hr : Hs[j]? = some r) : ∃ i, K[j]? = some i := by
  have : j < K.length := by rw [← h.len]; exact (List.getElem?_eq_some_iff.1 hr).1
  exact ⟨_, List.getElem?_eq_getElem this⟩
theorem pick_ban {C : Ctx} {K : List Nat} {Hs : List Row} {m : Nat} {b : Nat} (hb : ¬ C.ban b) : ¬ (C.pick K Hs m).ban b := by
  rintro (⟨j, hj⟩ | hf | ⟨i, _, hi⟩)
  · simp only [Ctx.pick] at hj
    obtain ⟨i, _, hi⟩ := Option.bind_eq_some_iff.1 hj
    exact hb (.inl ⟨i, hi⟩)
  · exact hb (.inr hf)
  · exact hb (.inl ⟨i, hi⟩)
theorem rowAt_some {H : List Row} {i : Nat} {r : Row} (h : rowAt H i = some r) : H[i]? = some r := by
  unfold rowAt at h
  split at h
  · rename_i r' hr'
    split at h
    · cases h; exact hr'
    · cases h
  · cases h

theorem pick_rh {P : Program} {C : Ctx} (hR : RH P C) {K : List Nat} {Hs : List Row} {m : Nat} (h : Picks C K Hs m) (hk : rowsOk 0 Hs = true) : RH P (C.pick K Hs m) := by
  have hfree : ∀ {p V}, RV P C p V → mlt 0 p = true → RV P (C.pick K Hs m) p V := fun hv hm => hv.free (fun b hb => Classical.byContradiction fun hn => pick_ban hn hb) rfl hm
  refine ⟨fun j j' b h1 h2 => ?_, fun j b h1 => ?_, fun j b r h1 h2 => ?_, h.most, fun j b h1 => ?_, fun b hb => ?_, fun j b r info h1 h2 h3 h4 => ?_, fun g hl => ⟨pick_ban (hR.glb g hl).1, (hR.glb g hl).2⟩⟩
  · obtain ⟨i, k1, k2⟩ := Option.bind_eq_some_iff.1 h1
    obtain ⟨i', k1', k2'⟩ := Option.bind_eq_some_iff.1 h2
    have := hR.inj i i' b k2 k2'
    subst this
    have e1 := posOf_of h.nodup k1
    have e2 := posOf_of h.nodup k1'
    rw [e1] at e2
    exact Option.some.inj e2
  · obtain ⟨i, k1, k2⟩ := Option.bind_eq_some_iff.1 h1
    rcases hR.dom i b k2 with ⟨r, hr⟩ | ⟨r, info, g1, g2, g3⟩
    · exact .inl ⟨r, by rw [pick_row h k1]; exact hr⟩
    · exact .inr ⟨r, info, by show Hs[j]? = _; rw [← (h.get j i k1).1]; exact g1, g2, g3⟩
  · obtain ⟨i, k1, k2⟩ := Option.bind_eq_some_iff.1 h1
    have h2' : rowAt Hs j = some r := h2
    rw [pick_row h k1] at h2
    have hB := hR.blk i b r k2 h2
    obtain ⟨c, fr, cv, m1, m2, m3, m4⟩ := hB.mem
    refine ⟨hB.sz, ⟨c, fr, cv, m1, m2, m3, fun k e j' p hk1 hj1 => ⟨(m4 k e j' p hk1 hj1).1, hfree (m4 k e j' p hk1 hj1).2 ?_⟩⟩, hB.len, hB.typed⟩
    rcases rowsOk_get hk h2' with hb | hb
    · exact wt_byval (hB.typed hb e (List.mem_of_getElem? hk1)) 0 p (List.mem_of_getElem? hj1)
    · exact mlts_get (hb e (List.mem_of_getElem? hk1)) hj1
  · obtain ⟨i, k1, k2⟩ := Option.bind_eq_some_iff.1 h1
    rintro (hf | ⟨i', hi', hj2⟩)
    · exact hR.nfo i b k2 hf
    · have := hR.inj i i' b k2 hj2
      subst this
      exact hi' (List.mem_of_getElem? k1)
  · rcases hb with hf | ⟨i, _, hi⟩
    · exact hR.fol b hf
    · exact hR.lt hi
  · obtain ⟨i, k1, k2⟩ := Option.bind_eq_some_iff.1 h1
    have h2' : Hs[j]? = some r := h2
    have h5 := rowsOk_lp hk h2' h3
    rw [← (h.get j i k1).1] at h2'
    obtain ⟨⟨rec, m1, m2, m3, m4, m5, m6⟩, ha, hb⟩ := hR.lps i b r info k2 h2' h3 h4
    exact ⟨⟨rec, m1, m2, m3, m4, ⟨m5.1, fun j p v g1 g2 => hfree (m5.2 j p v g1 g2) (mlts_get h5 g1)⟩, m6⟩, ha, hb⟩

/-- Rows written back. -/
def putRows (K : List Nat) (H Hs : List Row) : List Row := H.zipIdx.map fun x => match posOf K x.2 with | some j => Hs.getD j x.1 | none => x.1
theorem putRows_get (K : List Nat) (H Hs : List Row) (i : Nat) : (putRows K H Hs)[i]? = H[i]?.map fun r => match posOf K i with | some j => Hs.getD j r | none => r := by
  simp only [putRows, List.getElem?_map, List.getElem?_zipIdx, Nat.zero_add, Option.map_map]
  congr 1
def Ctx.unpick (C C' : Ctx) (K : List Nat) : Ctx :=
  { ρ := fun i => match posOf K i with | some j => C'.ρ j | none => C.ρ i, H := putRows K C.H C'.H, w := C'.w, fo := C.fo, ro := C.ro }
section
variable {P : Program} {C C' : Ctx} {K : List Nat} {Hs : List Row} {m : Nat}
theorem unpick_len (h : Picks C K Hs m) (hx : Ext (C.pick K Hs m) C') : K.length ≤ C'.H.length := by have := hx.len; simp only [Ctx.pick, h.len] at this; exact this
theorem unpick_get_in (h : Picks C K Hs m) (hx : Ext (C.pick K Hs m) C') {i j : Nat} (hj : K[j]? = some i) : (C.unpick C' K).H[i]? = C'.H[j]? := by
  show (putRows K C.H C'.H)[i]? = _
  have hi := h.lt (List.mem_of_getElem? hj)
  have hl := unpick_len h hx
  have hjl : j < C'.H.length := Nat.lt_of_lt_of_le (List.getElem?_eq_some_iff.1 hj).1 hl
  rw [putRows_get, List.getElem?_eq_getElem hi, posOf_of h.nodup hj, Option.map_some, List.getElem?_eq_getElem hjl]
  simp [List.getD, List.getElem?_eq_getElem hjl]
theorem unpick_get_out {i : Nat} (hi : posOf K i = none) : (C.unpick C' K).H[i]? = C.H[i]? := by
  show (putRows K C.H C'.H)[i]? = _
  rw [putRows_get, hi]
  cases C.H[i]? <;> rfl
theorem unpick_row_in (h : Picks C K Hs m) (hx : Ext (C.pick K Hs m) C') {i j : Nat} (hj : K[j]? = some i) : (C.unpick C' K).row? i = C'.row? j := by
  unfold Ctx.row? rowAt
  rw [unpick_get_in h hx hj]
theorem unpick_row_out {i : Nat} (hi : posOf K i = none) : (C.unpick C' K).row? i = C.row? i := by
  unfold Ctx.row? rowAt
  rw [unpick_get_out hi]
theorem unpick_ban (hx : Ext (C.pick K Hs m) C') (b : Nat) (hb : (C.unpick C' K).ban b) : C'.ban b := by
  rcases hb with ⟨i, hi⟩ | hf
  · simp only [Ctx.unpick] at hi
    split at hi
    · exact .inl ⟨_, hi⟩
    · rename_i hp
      refine .inr ?_
      rw [hx.fo]
      exact .inr ⟨i, posOf_none hp, hi⟩
  · refine .inr ?_
    rw [hx.fo]
    exact .inl hf
theorem pick_own (hR : RH P C) {i b : Nat} (hk : i ∉ K) (hi : C.ρ i = some b) : ¬ (C.pick K Hs m).own b := by
  rintro ⟨j, _, hj⟩
  obtain ⟨i', k1, k2⟩ := Option.bind_eq_some_iff.1 hj
  have := hR.inj i i' b hi k2
  subst this
  exact hk (List.mem_of_getElem? k1)
theorem unpick_ext (_hR : RH P C) (h : Picks C K Hs m) (hx : Ext (C.pick K Hs m) C') : Ext C (C.unpick C' K) := by
  have hl := unpick_len h hx
  refine ⟨hx.os, hx.tape, hx.output, hx.size, fun b hb ho => hx.block b hb fun hm => ho ?_, hx.shape, by simp [Ctx.unpick, putRows], fun i r' hi hr => ?_, fun b hb => ?_, fun b hb => ?_, rfl, rfl, fun i hi => ?_, fun i r info h1 h2 h3 => ?_, hx.loop⟩
  · obtain ⟨j, hjm, hj⟩ := hm
    obtain ⟨i, k1, k2⟩ := Option.bind_eq_some_iff.1 hj
    exact ⟨i, (h.get j i k1).2 hjm, k2⟩
  · cases hp : posOf K i with
    | some j =>
      have hj := posOf_get hp
      rw [unpick_row_in h hx hj] at hr
      obtain ⟨r, a1, a2, a3, a4, a5⟩ := hx.rows j r' (by simp only [Ctx.pick, h.len]; exact (List.getElem?_eq_some_iff.1 hj).1) hr
      rw [pick_row h hj] at a1
      exact ⟨r, a1, a2, a3, a4, fun e => ⟨(a5 e).1, fun b hb => by
        show (match posOf K i with | some j => C'.ρ j | none => C.ρ i) = some b
        rw [hp]
        exact (a5 e).2 b (by simp only [Ctx.pick, hj, Option.bind_some]; exact hb)⟩⟩
    | none =>
      rw [unpick_row_out hp] at hr
      exact ⟨r', hr, rfl, rfl, Nat.le_refl _, fun _ => ⟨rfl, fun b hb => by
        show (match posOf K i with | some j => C'.ρ j | none => C.ρ i) = some b
        rw [hp]; exact hb⟩⟩
  · obtain ⟨i, hi⟩ := hb
    simp only [Ctx.unpick] at hi
    split at hi
    · rcases hx.fresh b ⟨_, hi⟩ with ⟨j, hj⟩ | hs
      · obtain ⟨i', k1, k2⟩ := Option.bind_eq_some_iff.1 hj
        exact .inl ⟨i', k2⟩
      · exact .inr hs
    · exact .inl ⟨i, hi⟩
  · obtain ⟨i, hir, hi⟩ := hb
    simp only [Ctx.unpick] at hi hir
    split at hi
    · rename_i j0 hp0
      by_cases hjm : m ≤ j0
      · rcases hx.freshOwn b ⟨_, by rw [hx.ro]; exact hjm, hi⟩ with ⟨j, hj0, hj⟩ | hs
        · obtain ⟨i', k1, k2⟩ := Option.bind_eq_some_iff.1 hj
          exact .inl ⟨i', (h.get j i' k1).2 hj0, k2⟩
        · exact .inr hs
      · have hl0 := (hx.low j0 (by show j0 < m; omega)).2
        rw [hi] at hl0
        have hb0 := hl0.symm
        simp only [Ctx.pick, posOf_get hp0, Option.bind_some] at hb0
        exact .inl ⟨i, hir, hb0⟩
    · exact .inl ⟨i, hir, hi⟩
  · cases hp : posOf K i with
    | none =>
      refine ⟨unpick_get_out hp, ?_⟩
      show (match posOf K i with | some j => C'.ρ j | none => C.ρ i) = _
      rw [hp]
    | some j =>
      have hj := posOf_get hp
      have hjm : j < m := by
        have := (h.get j i hj).2
        by_cases hm : m ≤ j
        · have := this hm; omega
        · omega
      obtain ⟨l1, l2⟩ := hx.low j hjm
      refine ⟨by rw [unpick_get_in h hx hj, l1]; exact (h.get j i hj).1.symm, ?_⟩
      show (match posOf K i with | some j => C'.ρ j | none => C.ρ i) = _
      rw [hp]
      show C'.ρ j = C.ρ i
      rw [l2]
      simp only [Ctx.pick, hj, Option.bind_some]
  · cases hp : posOf K i with
    | some j =>
      have hj := posOf_get hp
      obtain ⟨⟨r', st, a1, a2, a3⟩, a4⟩ := hx.lp j r info (by show Hs[j]? = _; rw [← (h.get j i hj).1]; exact h1) h2 h3
      refine ⟨⟨r', st, by rw [unpick_get_in h hx hj]; exact a1, a2, a3⟩, fun b hb => ?_⟩
      show (match posOf K i with | some j => C'.ρ j | none => C.ρ i) = _
      rw [hp]
      exact a4 b (by simp only [Ctx.pick, hj, Option.bind_some]; exact hb)
    | none =>
      refine ⟨⟨r, info.st, by rw [unpick_get_out hp]; exact h1, h2, h3⟩, fun b hb => ?_⟩
      show (match posOf K i with | some j => C'.ρ j | none => C.ρ i) = _
      rw [hp]; exact hb
theorem unpick_rh (hR : RH P C) (h : Picks C K Hs m) (hx : Ext (C.pick K Hs m) C') (hR' : RH P C') (hk : rowsOk 0 (C'.H.take K.length) = true) : RH P (C.unpick C' K) := by
  have hl := unpick_len h hx
  have hxe := unpick_ext hR h hx
  have hfree : ∀ {p V}, RV P C' p V → mlt 0 p = true → RV P (C.unpick C' K) p V := fun hv hm => hv.free (unpick_ban hx) rfl hm
  have hfo : ∀ b, C'.fo b ↔ C.fo b ∨ ∃ i, i ∉ K ∧ C.ρ i = some b := fun b => by rw [hx.fo]; rfl
  have hold : ∀ i b, i ∉ K → C.ρ i = some b → C'.w.heap[b]? = C.w.heap[b]? := fun i b hk hi => hx.block b (hR.lt hi) (pick_own hR hk hi)
  have hin : ∀ i j b, posOf K i = some j → (C.unpick C' K).ρ i = some b → C'.ρ j = some b := fun i j b hp hi => by
    have : (match posOf K i with | some j => C'.ρ j | none => C.ρ i) = some b := hi
    rwa [hp] at this
  have hout : ∀ i b, posOf K i = none → (C.unpick C' K).ρ i = some b → C.ρ i = some b := fun i b hp hi => by
    have : (match posOf K i with | some j => C'.ρ j | none => C.ρ i) = some b := hi
    rwa [hp] at this
  have htake : ∀ i j r, posOf K i = some j → C'.H[j]? = some r → (C'.H.take K.length)[j]? = some r := fun i j r hp hr => by
    rw [List.getElem?_take, if_pos (List.getElem?_eq_some_iff.1 (posOf_get hp)).1]; exact hr
  refine ⟨fun i j b h1 h2 => ?_, fun i b h1 => ?_, fun i b r h1 h2 => ?_, Nat.le_trans hR.ro hxe.len, fun i b h1 => ?_, fun b hb => Nat.lt_of_lt_of_le (hR.fol b hb) hxe.size, fun i b r info h1 h2 h3 h4 => ?_, hR.glb.mono hxe⟩
  · cases hp : posOf K i with
    | some p =>
      cases hq : posOf K j with
      | some q =>
        have e := hR'.inj p q b (hin i p b hp h1) (hin j q b hq h2)
        subst e
        have g1 := posOf_get hp
        have g2 := posOf_get hq
        rw [g1] at g2
        exact Option.some.inj g2
      | none => exact absurd ((hfo b).2 (.inr ⟨j, posOf_none hq, hout j b hq h2⟩)) (hR'.nfo p b (hin i p b hp h1))
    | none =>
      cases hq : posOf K j with
      | some q => exact absurd ((hfo b).2 (.inr ⟨i, posOf_none hp, hout i b hp h1⟩)) (hR'.nfo q b (hin j q b hq h2))
      | none => exact hR.inj i j b (hout i b hp h1) (hout j b hq h2)
  · cases hp : posOf K i with
    | some p =>
      rcases hR'.dom p b (hin i p b hp h1) with ⟨r, hr⟩ | ⟨r, info, g1, g2, g3⟩
      · exact .inl ⟨r, by rw [unpick_row_in h hx (posOf_get hp)]; exact hr⟩
      · exact .inr ⟨r, info, by rw [unpick_get_in h hx (posOf_get hp)]; exact g1, g2, g3⟩
    | none =>
      rcases hR.dom i b (hout i b hp h1) with ⟨r, hr⟩ | ⟨r, info, g1, g2, g3⟩
      · exact .inl ⟨r, by rw [unpick_row_out hp]; exact hr⟩
      · exact .inr ⟨r, info, by rw [unpick_get_out hp]; exact g1, g2, g3⟩
  · cases hp : posOf K i with
    | some p =>
      rw [unpick_row_in h hx (posOf_get hp)] at h2
      have hB := hR'.blk p b r (hin i p b hp h1) h2
      obtain ⟨c, fr, cv, m1, m2, m3, m4⟩ := hB.mem
      refine ⟨hB.sz, ⟨c, fr, cv, m1, m2, m3, fun k e j q hk1 hj1 => ⟨(m4 k e j q hk1 hj1).1, hfree (m4 k e j q hk1 hj1).2 ?_⟩⟩, hB.len, hB.typed⟩
      have h2' : rowAt C'.H p = some r := h2
      have h3 : rowAt (C'.H.take K.length) p = some r := by
        have g := htake i p r hp (rowAt_some h2')
        unfold rowAt at h2' ⊢
        rw [g]
        rw [rowAt_some (show rowAt C'.H p = some r from h2)] at h2'
        exact h2'
      rcases rowsOk_get hk h3 with hb | hb
      · exact wt_byval (hB.typed hb e (List.mem_of_getElem? hk1)) 0 q (List.mem_of_getElem? hj1)
      · exact mlts_get (hb e (List.mem_of_getElem? hk1)) hj1
    | none =>
      rw [unpick_row_out hp] at h2
      exact (hR.blk i b r (hout i b hp h1) h2).mono hxe (hold i b (posOf_none hp) (hout i b hp h1))
  · cases hp : posOf K i with
    | some p => exact fun hf => hR'.nfo p b (hin i p b hp h1) ((hfo b).2 (.inl hf))
    | none => exact hR.nfo i b (hout i b hp h1)
  · cases hp : posOf K i with
    | some p =>
      rw [unpick_get_in h hx (posOf_get hp)] at h2
      obtain ⟨⟨rec, m1, m2, m3, m4, m5, m6⟩, ha, hb⟩ := hR'.lps p b r info (hin i p b hp h1) h2 h3 h4
      have h5 := rowsOk_lp hk (htake i p r hp h2) h3
      exact ⟨⟨rec, m1, m2, m3, m4, ⟨m5.1, fun j q v g1 g2 => hfree (m5.2 j q v g1 g2) (mlts_get h5 g1)⟩, m6⟩, ha, hb⟩
    | none =>
      rw [unpick_get_out hp] at h2
      exact (hR.lps i b r info (hout i b hp h1) h2 h3 h4).mono hxe (hold i b (posOf_none hp) (hout i b hp h1))
end

/-- Arguments, by the rows that are picked: pointers, slices, closures over them. -/
def rowOf : PV → Option Nat | .ptr i _ _ _ => some i | .sl i _ _ _ => some i | _ => none
def argRows (args : List PV) : List Nat := args.flatMap fun p => match p with | .fn _ first cap => (first ++ cap).filterMap rowOf | .agg cs => cs.filterMap rowOf | p => (rowOf p).toList
def renB (K : List Nat) : PV → PV
  | .ptr i n k j => match posOf K i with | some m => .ptr m n k j | none => .any
  | .sl i n k l => match posOf K i with | some m => .sl m n k l | none => .any
  | p => p
def renA (K : List Nat) : PV → PV
  | .fn f first cap => .fn f (first.map (renB K)) (cap.map (renB K))
  | .agg cs => .agg (cs.map (renB K))
  | p => renB K p
def argG : PV → Bool
  | .ptr _ _ _ _ => true
  | .sl _ _ _ _ => true
  | p => mlt 0 p
def argF : PV → Bool
  | .fn _ first cap => first.all argG && cap.all argG
  | .agg cs => cs.all argG
  | p => argG p
theorem pick_argB {P : Program} {C : Ctx} {K : List Nat} {Hs : List Row} {m : Nat} (h : Picks C K Hs m) {p : PV} {V : Value} (hv : RV P C p V) (ho : argG p = true) : RV P (C.pick K Hs m) (renB K p) V := by
  have hfree : mlt 0 p = true → RV P (C.pick K Hs m) p V := hv.free (fun b hb => Classical.byContradiction fun hn => pick_ban hn hb) rfl
  cases hv with
  | ptr hV hk hi hn h1 =>
    rename_i i n k j
    simp only [renB]
    cases hp : posOf K i with
    | none => exact .any
    | some m =>
      have hm := posOf_get hp
      refine .ptr hV hk (by show m < Hs.length; rw [h.len]; exact (List.getElem?_eq_some_iff.1 hm).1) (fun r hr => hn r (by rw [← pick_row h hm]; exact hr)) fun r hr he => ?_
      obtain ⟨b, g1, g2⟩ := h1 r (by rw [← pick_row h hm]; exact hr) he
      exact ⟨b, by simp only [Ctx.pick, hm, Option.bind_some]; exact g1, g2⟩
  | sl hV hi hn h1 =>
    rename_i i n k l
    simp only [renB]
    cases hp : posOf K i with
    | none => exact .any
    | some m =>
      have hm := posOf_get hp
      refine .sl hV (by show m < Hs.length; rw [h.len]; exact (List.getElem?_eq_some_iff.1 hm).1) (fun r hr => hn r (by rw [← pick_row h hm]; exact hr)) fun r hr he => ?_
      obtain ⟨g0, a, cap, g1, g2, g3⟩ := h1 r (by rw [← pick_row h hm]; exact hr) he
      refine ⟨g0, a, cap, g1, g2, ?_⟩
      unfold SlAt at g3 ⊢
      split
      · rename_i hnl; rw [if_pos hnl] at g3; exact g3
      · rename_i hnl
        rw [if_neg hnl] at g3
        obtain ⟨b, q1, q2⟩ := g3
        exact ⟨b, by simp only [Ctx.pick, hm, Option.bind_some]; exact q1, q2⟩
  | _ => exact hfree (by simpa [argG] using ho)
theorem pick_arg {P : Program} {C : Ctx} {K : List Nat} {Hs : List Row} {m : Nat} (h : Picks C K Hs m) {p : PV} {V : Value} (hv : RV P C p V) (ho : argF p = true) : RV P (C.pick K Hs m) (renA K p) V := by
  cases hv with
  | fn h1 h2 h3 h4 =>
    simp only [argF, Bool.and_eq_true] at ho
    simp only [renA]
    refine .fn (by simpa using h1) (by simpa using h2) (fun j c v g1 g2 => ?_) (fun j c v g1 g2 => ?_)
    · simp only [List.getElem?_map, Option.map_eq_some_iff] at g1
      obtain ⟨x, hx, rfl⟩ := g1
      exact pick_argB h (h3 j x v hx g2) (List.all_eq_true.1 ho.1 x (List.mem_of_getElem? hx))
    · simp only [List.getElem?_map, Option.map_eq_some_iff] at g1
      obtain ⟨x, hx, rfl⟩ := g1
      exact pick_argB h (h4 j x v hx g2) (List.all_eq_true.1 ho.2 x (List.mem_of_getElem? hx))
  | any => exact pick_argB h .any ho
  | val => exact pick_argB h .val ho
  | ptr a b c d e => exact pick_argB h (.ptr a b c d e) ho
  | sl a b c d => exact pick_argB h (.sl a b c d) ho
  | lptr a b c d e f => exact pick_argB h (.lptr a b c d e f) ho
  | lst a b c d e f g i j => exact pick_argB h (.lst a b c d e f g i j) ho
  | agg h1 h2 =>
    simp only [argF] at ho
    simp only [renA]
    refine .agg (by simpa using h1) fun j c v g1 g2 => ?_
    simp only [List.getElem?_map, Option.map_eq_some_iff] at g1
    obtain ⟨x, hx, rfl⟩ := g1
    exact pick_argB h (h2 j x v hx g2) (List.all_eq_true.1 ho x (List.mem_of_getElem? hx))
  | tup a b => exact pick_argB h (.tup a b) ho
  | ifc a => exact pick_argB h (.ifc a) ho
  | yld a b c => exact pick_argB h (.yld a b c) ho
  | gv a b c d => exact pick_argB h (.gv a b c d) ho
  | bad a => exact pick_argB h (.bad a) ho
/-- What may come back: a plain value, or a slice of one of the rows. -/
def backB (n : Nat) : PV → Bool
  | .sl m _ _ _ => decide (m < n)
  | p => mlt 0 p
def backP (K : List Nat) : PV → PV
  | .sl m n k l => .sl (K.getD m 0) n k l
  | p => p
theorem back_rv {P : Program} {C C' : Ctx} {K : List Nat} {Hs : List Row} {m : Nat} (h : Picks C K Hs m) (hx : Ext (C.pick K Hs m) C') {p : PV} {V : Value} (hv : RV P C' p V) (hb : backB K.length p = true) : RV P (C.unpick C' K) (backP K p) V := by
  have hplain : mlt 0 p = true → RV P (C.unpick C' K) p V := fun hp => hv.free (unpick_ban hx) rfl hp
  cases hv with
  | sl hV hi hn h1 =>
    rename_i m n k l
    simp only [backB, decide_eq_true_eq] at hb
    have hm : K[m]? = some (K.getD m 0) := by rw [List.getD_eq_getElem?_getD, List.getElem?_eq_getElem hb]; rfl
    simp only [backP]
    refine .sl hV (by show K.getD m 0 < (putRows K C.H C'.H).length; simp only [putRows, List.length_map, List.length_zipIdx]; exact h.lt (List.mem_of_getElem? hm)) (fun r hr => hn r (by rw [← unpick_row_in h hx hm]; exact hr)) fun r hr he => ?_
    obtain ⟨g0, a, cap, g1, g2, g3⟩ := h1 r (by rw [← unpick_row_in h hx hm]; exact hr) he
    refine ⟨g0, a, cap, g1, g2, ?_⟩
    unfold SlAt at g3 ⊢
    split
    · rename_i hnl; rw [if_pos hnl] at g3; exact g3
    · rename_i hnl
      rw [if_neg hnl] at g3
      obtain ⟨b, q1, q2⟩ := g3
      refine ⟨b, ?_, q2⟩
      show (match posOf K (K.getD m 0) with | some j => C'.ρ j | none => C.ρ (K.getD m 0)) = some b
      rw [posOf_of h.nodup hm]; exact q1
  | _ => exact hplain hb

def DT.filt {α : Type} (g : α → Bool) : DT α → DT α
  | .leaf a => match g a with | true => .leaf a | false => .no
  | .no => .no
  | .br b x y => .br b (x.filt g) (y.filt g)
theorem DT.run_filt {α : Type} {g : α → Bool} {r : α} : ∀ {d : DT α}, (d.filt g).run = some r → d.run = some r ∧ g r = true
  | .leaf a, h => by
    simp only [DT.filt] at h
    split at h
    · rename_i hg; cases h; exact ⟨rfl, hg⟩
    · cases h
  | .no, h => by cases h
  | .br b x y, h => by
    cases b
    · exact DT.run_filt (d := y) h
    · exact DT.run_filt (d := x) h

/-- A contract on the rows whose pointers are given. -/
def onRows (c : List PV → List Row → Option (DT (PV × List Row))) (ro : Nat) (args : List PV) (H : List Row) : Option (DT (PV × List Row)) :=
  let K := argRows args
  match decide K.Nodup && K.all (fun i => decide (ro ≤ i) && decide (i < H.length)) && args.all argF && rowsOk 0 (K.map fun i => H.getD i default) with
  | true => (c ((args.map (renA K)).map nrm) (K.map fun i => H.getD i default)).map fun d => (d.filt fun r => backB K.length r.1 && r.2.length == K.length && rowsOk 0 r.2).map fun r => (backP K r.1, putRows K H r.2)
  | false => none
def EnvK.addR (E : EnvK) (k : FuncId) (c : List PV → List Row → Option (DT (PV × List Row))) : EnvK := E.addC k (onRows c)
theorem EnvOK.addR {P : Program} {E : EnvK} (hE : EnvOK P E.env) {k : FuncId} {c : List PV → List Row → Option (DT (PV × List Row))} (hent : Enters P k)
    (hc : ∀ args H d p H', c args H = some d → d.run = some (p, H') → RCall P 0 k args H p H') : EnvOK P (E.addR k c).env := by
  refine hE.addC hent fun ro args H d p H' h1 h2 => ?_
  unfold onRows at h1
  dsimp only at h1
  split at h1
  · rename_i hk
    simp only [Bool.and_eq_true, decide_eq_true_eq] at hk
    obtain ⟨⟨⟨hn, hK⟩, hargs⟩, hok⟩ := hk
    obtain ⟨d0, g1, rfl⟩ := Option.map_eq_some_iff.1 h1
    obtain ⟨⟨p0, H0⟩, g2, g3⟩ := DT.run_map h2
    cases g3
    obtain ⟨g4, g5⟩ := DT.run_filt g2
    simp only [Bool.and_eq_true, beq_iff_eq] at g5
    obtain ⟨⟨gp, gl⟩, gk⟩ := g5
    intro C hH hro hR Vs hv
    subst hH
    have hP : Picks C (argRows args) ((argRows args).map fun i => C.H.getD i default) 0 := by
      refine ⟨hn, by simp, fun j i hj => ?_, Nat.zero_le _⟩
      have := List.all_eq_true.1 hK i (List.mem_of_getElem? hj)
      simp only [Bool.and_eq_true, decide_eq_true_eq] at this
      refine ⟨?_, fun _ => by rw [hro]; exact this.1⟩
      rw [List.getElem?_map, hj, Option.map_some, List.getD_eq_getElem?_getD, List.getElem?_eq_getElem this.2]; rfl
    have hR1 := pick_rh hR hP hok
    have hv1 : Cs P (C.pick (argRows args) ((argRows args).map fun i => C.H.getD i default) 0) (args.map (renA (argRows args))) Vs := by
      refine ⟨by simpa using hv.1, fun j c v q1 q2 => ?_⟩
      simp only [List.getElem?_map, Option.map_eq_some_iff] at q1
      obtain ⟨x, hx, rfl⟩ := q1
      exact pick_arg hP (hv.2 j x v hx q2) (List.all_eq_true.1 hargs x (List.mem_of_getElem? hx))
    refine (hc _ _ _ _ _ g1 g4 _ rfl rfl hR1 Vs hv1.nrm).mono ?_
    rintro e w' ⟨V, C', rfl, rfl, hct⟩
    have hH' := hct.H
    have hle := unpick_len hP hct.ext
    refine ⟨V, C.unpick C' (argRows args), rfl, rfl, ?_, unpick_ext hR hP hct.ext, unpick_rh hR hP hct.ext hct.rh ?_, back_rv hP hct.ext hct.rv gp⟩
    · show putRows (argRows args) C.H C'.H = putRows (argRows args) C.H H0
      rw [hH']
    · rw [hH', List.take_of_length_le (by rw [gl]; exact Nat.le_refl _)]; exact gk
  · cases h1

/-- A contract of a function that only reads the rows whose pointers are given. -/
def onRowsE (c : List PV → List Row → Option (DT PV)) (args : List PV) (H : List Row) : Option (DT (PV × List Row)) :=
  let K := argRows args
  match decide K.Nodup && K.all (fun i => decide (i < H.length)) && args.all argF && rowsOk 0 (K.map fun i => H.getD i default) with
  | true => (c ((args.map (renA K)).map nrm) (K.map fun i => H.getD i default)).map fun d => (d.filt fun p => mlt 0 p).map fun p => (p, H)
  | false => none
def EnvK.addRE (E : EnvK) (k : FuncId) (c : List PV → List Row → Option (DT PV)) : EnvK := E.addC k fun _ => onRowsE c
theorem EnvOK.addRE {P : Program} {E : EnvK} (hE : EnvOK P E.env) {k : FuncId} {c : List PV → List Row → Option (DT PV)} (hent : Enters P k)
    (hc : ∀ args H d p, c args H = some d → d.run = some p → RCall P H.length k args H p H) : EnvOK P (E.addRE k c).env := by
  refine hE.addC hent fun ro args H d p H' h1 h2 => ?_
  unfold onRowsE at h1
  dsimp only at h1
  split at h1
  · rename_i hk
    simp only [Bool.and_eq_true, decide_eq_true_eq] at hk
    obtain ⟨⟨⟨hn, hK⟩, hargs⟩, hok⟩ := hk
    obtain ⟨d0, g1, rfl⟩ := Option.map_eq_some_iff.1 h1
    obtain ⟨p0, g2, g3⟩ := DT.run_map h2
    cases g3
    obtain ⟨g4, gp⟩ := DT.run_filt g2
    intro C hH hro hR Vs hv
    subst hH
    have hget : ∀ (j : Nat) i, (argRows args)[j]? = some i → C.H[i]? = ((argRows args).map fun i => C.H.getD i default)[j]? := fun j i hj => by
      have := List.all_eq_true.1 hK i (List.mem_of_getElem? hj)
      simp only [decide_eq_true_eq] at this
      rw [List.getElem?_map, hj, Option.map_some, List.getD_eq_getElem?_getD, List.getElem?_eq_getElem this]; rfl
    have hP : Picks C (argRows args) ((argRows args).map fun i => C.H.getD i default) ((argRows args).map fun i => C.H.getD i default).length :=
      ⟨hn, by simp, fun j i hj => ⟨hget j i hj, fun hm => by
        have h5 := (List.getElem?_eq_some_iff.1 hj).1
        rw [List.length_map] at hm; omega⟩, Nat.le_refl _⟩
    have hR1 := pick_rh hR hP hok
    have hv1 : Cs P (C.pick (argRows args) ((argRows args).map fun i => C.H.getD i default) ((argRows args).map fun i => C.H.getD i default).length) (args.map (renA (argRows args))) Vs := by
      refine ⟨by simpa using hv.1, fun j c v q1 q2 => ?_⟩
      simp only [List.getElem?_map, Option.map_eq_some_iff] at q1
      obtain ⟨x, hx, rfl⟩ := q1
      exact pick_arg hP (hv.2 j x v hx q2) (List.all_eq_true.1 hargs x (List.mem_of_getElem? hx))
    refine (hc _ _ _ _ g1 g4 _ rfl rfl hR1 Vs hv1.nrm).mono ?_
    rintro e w' ⟨V, C', rfl, rfl, hct⟩
    have hH' := hct.H
    have hback : putRows (argRows args) C.H C'.H = C.H := by
      rw [hH']
      apply List.ext_getElem?
      intro i
      rw [putRows_get]
      cases hp : posOf (argRows args) i with
      | none => cases C.H[i]? <;> rfl
      | some j =>
        have hj := posOf_get hp
        have h5 := hget j i hj
        cases h6 : C.H[i]? with
        | none => rfl
        | some r =>
          rw [h6] at h5
          rw [Option.map_some]
          show some (List.getD _ j r) = some r
          rw [List.getD_eq_getElem?_getD, ← h5]; rfl
    refine ⟨V, C.unpick C' (argRows args), rfl, rfl, hback, unpick_ext hR hP hct.ext, unpick_rh hR hP hct.ext hct.rh ?_, hct.rv.free (unpick_ban hct.ext) rfl gp⟩
    rw [hH', List.take_of_length_le (by simp)]; exact hok
  · cases h1

/-- What a call comes to, on rows that it only reads. -/
def runSE (P : Program) (E : EnvK) (n : Nat) (f : FuncId) (args : List PV) (H : List Row) : Option PV :=
  callXK P (execK P E n) H.length f args H fun p H' => frzK H' H.length p fun q => need (mlt H.length q && rowsOk H.length (H'.take H.length)) (some q)
theorem runSE_sound {P : Program} {E : EnvK} (hE : EnvOK P E.env) {n : Nat} {f : FuncId} {args : List PV} {H : List Row} {p : PV} (h : runSE P E n f args H = some p) : Enters P f ∧ RCall P H.length f args H p H := by
  obtain ⟨q, H1, h1, h2⟩ := callXK_some (execK_ref n) h
  have h3 := frzK_some h2
  obtain ⟨h4, h5⟩ := need_some h3
  cases h5
  refine ⟨callX_enters h1, fun C hH hro hR Vs hv => ?_⟩
  subst hH
  refine ((callX_sound hE (exec_ok hE n) hR hro hv h1).2).mono ?_
  rintro e w' ⟨V, C', rfl, rfl, hc⟩
  have hlen : C.H.length ≤ C'.H.length := hc.ext.len
  have htk : H1.take C.H.length = C.H := by
    rw [← hc.H]
    apply List.ext_getElem?
    intro i
    rw [List.getElem?_take]
    split
    · rename_i hi; exact (hc.ext.low i (by rw [hro]; exact hi)).1
    · rename_i hi; rw [List.getElem?_eq_none (by omega)]
  obtain ⟨C2, e1, e2⟩ := settle_sound hR hc (show settle C.H.length q H1 = (frz H1 C.H.length q, H1.take C.H.length) by unfold settle; rw [if_pos h4])
  rw [htk] at e2
  exact ⟨V, C2, rfl, e1, e2⟩

/-- What a call comes to, on rows; its own rows are let go, what it hands back is read. -/
def runS (P : Program) (E : EnvK) (n : Nat) (f : FuncId) (args : List PV) (H : List Row) : Option (PV × List Row) :=
  callXK P (execK P E n) 0 f args H fun p H' => frzK H' H.length p fun q => need (mlt H.length q && rowsOk H.length (H'.take H.length)) (some (q, H'.take H.length))
theorem runS_sound {P : Program} {E : EnvK} (hE : EnvOK P E.env) {n : Nat} {f : FuncId} {args : List PV} {H H' : List Row} {p : PV} (h : runS P E n f args H = some (p, H')) : Enters P f ∧ RCall P 0 f args H p H' := by
  obtain ⟨q, H1, h1, h2⟩ := callXK_some (execK_ref n) h
  have h3 := frzK_some h2
  obtain ⟨h4, h5⟩ := need_some h3
  cases h5
  refine ⟨callX_enters h1, fun C hH hro hR Vs hv => ?_⟩
  subst hH
  refine ((callX_sound hE (exec_ok hE n) hR hro hv h1).2).mono ?_
  rintro e w' ⟨V, C', rfl, rfl, hc⟩
  obtain ⟨C2, e1, e2⟩ := settle_sound hR hc (show settle C.H.length q H1 = (frz H1 C.H.length q, H1.take C.H.length) by unfold settle; rw [if_pos h4])
  exact ⟨V, C2, rfl, e1, e2⟩
end Go.Hx
/- Hx: loops' contracts by a model whose states are lists of leaves: a shape takes a state apart and puts it together. -/
namespace Go.Hx
inductive L1 where
  | i (n : Int) | b (b : Bool) | n (n : Nat) | l (f : Bool) (es : List PV) | s (s : ByteArray) | p (p : PV) | r (r : Row)
inductive X1 where
  | any | int (k : IntKind) | bool | lst (t : TypeId) | str | ptr (i n k j : Nat) | sl (i : Nat) | slo (i : Nat) | nil | pv | yld (i : Nat) | agg (cs : List X1) | fn (f : FuncId) (first cap : List X1)
abbrev I64 : X1 := .int .i64
mutual
def X1.get : X1 → PV → Option (List L1)
  | .any, .any => some []
  | .int k, .val (.int k' n) => if k == k' then some [.i n] else none
  | .bool, .val (.bool v) => some [.b v]
  | .lst t, .lst f t' es => if t == t' then some [.l f es] else none
  | .str, .val (.string s) => some [.s s]
  | .ptr i n k j, .ptr i' n' k' j' => if i == i' && n == n' && k == k' && j == j' then some [] else none
  | .sl i, .sl i' n k l => if i == i' && k == 0 then some [.n n, .n l] else none
  | .slo i, .sl i' n k l => if i == i' then some [.n n, .n k, .n l] else none
  | .nil, .val (.slice none 0 0) => some []
  | .pv, p => some [.p p]
  | .yld i, .yld i' => if i == i' then some [] else none
  | .agg cs, .agg ps => X1.gets cs ps
  | .fn f a b, .fn (.func f') ags bs => if f == f' then (match X1.gets a ags, X1.gets b bs with | some x, some y => some (x ++ y) | _, _ => none) else none
  | _, _ => none
def X1.gets : List X1 → List PV → Option (List L1)
  | [], [] => some []
  | c :: cs, p :: ps => match X1.get c p, X1.gets cs ps with | some x, some xs => some (x ++ xs) | _, _ => none
  | _, _ => none
end
mutual
def X1.len : X1 → Nat
  | .any => 0 | .int _ => 1 | .bool => 1 | .lst _ => 1 | .str => 1 | .ptr _ _ _ _ => 0 | .sl _ => 2 | .slo _ => 3 | .nil => 0 | .pv => 1 | .yld _ => 0 | .agg cs => X1.lens cs | .fn _ a b => X1.lens a + X1.lens b
def X1.lens : List X1 → Nat
  | [] => 0 | c :: cs => c.len + X1.lens cs
end
mutual
def X1.put : X1 → List L1 → PV
  | .any, _ => .any
  | .int k, [.i n] => .val (.int k n)
  | .bool, [.b v] => .val (.bool v)
  | .lst t, [.l f es] => .lst f t es
  | .str, [.s s] => .val (.string s)
  | .ptr i n k j, _ => .ptr i n k j
  | .sl i, [.n n, .n l] => .sl i n 0 l
  | .slo i, [.n n, .n k, .n l] => .sl i n k l
  | .nil, _ => .val (.slice none 0 0)
  | .pv, [.p p] => p
  | .yld i, _ => .yld i
  | .agg cs, xs => .agg (X1.puts cs xs)
  | .fn f a b, xs => .fn (.func f) (X1.puts a (xs.take (X1.lens a))) (X1.puts b (xs.drop (X1.lens a)))
  | _, _ => .any
def X1.puts : List X1 → List L1 → List PV
  | [], _ => []
  | c :: cs, xs => X1.put c (xs.take c.len) :: X1.puts cs (xs.drop c.len)
end
def X1.leafy : X1 → Bool | .agg _ => false | .fn _ _ _ => false | _ => true
theorem X1.get_put0 {c : X1} {p : PV} {x : List L1} (hc : c.leafy = true) (h : c.get p = some x) : p = c.put x ∧ x.length = c.len := by
  unfold X1.get at h
  split at h
  · cases h; exact ⟨rfl, rfl⟩
  · split at h
    · rename_i hk; cases h; rw [beq_iff_eq] at hk; subst hk; exact ⟨rfl, rfl⟩
    · cases h
  · cases h; exact ⟨rfl, rfl⟩
  · split at h
    · rename_i hk; cases h; rw [beq_iff_eq] at hk; subst hk; exact ⟨rfl, rfl⟩
    · cases h
  · cases h; exact ⟨rfl, rfl⟩
  · split at h
    · rename_i hk; cases h; simp only [Bool.and_eq_true, beq_iff_eq] at hk; obtain ⟨⟨⟨rfl, rfl⟩, rfl⟩, rfl⟩ := hk; exact ⟨rfl, rfl⟩
    · cases h
  · split at h
    · rename_i hk; cases h; simp only [Bool.and_eq_true, beq_iff_eq] at hk; obtain ⟨rfl, rfl⟩ := hk; exact ⟨rfl, rfl⟩
    · cases h
  · split at h
    · rename_i hk; cases h; rw [beq_iff_eq] at hk; subst hk; exact ⟨rfl, rfl⟩
    · cases h
  · cases h; exact ⟨rfl, rfl⟩
  · cases h; exact ⟨rfl, rfl⟩
  · split at h
    · rename_i hk; cases h; rw [beq_iff_eq] at hk; subst hk; exact ⟨rfl, rfl⟩
    · cases h
  · cases hc
  · cases hc
  · cases h
mutual
theorem X1.get_put : ∀ (c : X1) {p : PV} {x : List L1}, c.get p = some x → p = c.put x ∧ x.length = c.len
  | .agg cs, p, x, h => by
    cases p with
    | agg ps =>
      simp only [X1.get] at h
      obtain ⟨h1, h2⟩ := X1.gets_puts cs h
      exact ⟨by simp only [X1.put]; rw [← h1], h2⟩
    | _ => simp [X1.get] at h
  | .fn f a b, p, x, h => by
    cases p with
    | fn g ags bs =>
      cases g with
      | func k =>
        simp only [X1.get] at h
        split at h
        · rename_i hf
          split at h
          · rename_i x1 y1 hx hy
            cases h
            obtain ⟨h1, h2⟩ := X1.gets_puts a hx
            obtain ⟨h3, h4⟩ := X1.gets_puts b hy
            rw [beq_iff_eq] at hf
            subst hf
            refine ⟨?_, by simp only [X1.len, List.length_append, h2, h4]⟩
            simp only [X1.put]
            rw [← h2, List.take_left, List.drop_left, ← h1, ← h3]
          · cases h
        · cases h
      | _ => simp [X1.get] at h
    | _ => simp [X1.get] at h
  | .any, _, _, h => X1.get_put0 rfl h
  | .int _, _, _, h => X1.get_put0 rfl h
  | .bool, _, _, h => X1.get_put0 rfl h
  | .lst _, _, _, h => X1.get_put0 rfl h
  | .str, _, _, h => X1.get_put0 rfl h
  | .ptr _ _ _ _, _, _, h => X1.get_put0 rfl h
  | .sl _, _, _, h => X1.get_put0 rfl h
  | .slo _, _, _, h => X1.get_put0 rfl h
  | .nil, _, _, h => X1.get_put0 rfl h
  | .pv, _, _, h => X1.get_put0 rfl h
  | .yld _, _, _, h => X1.get_put0 rfl h
theorem X1.gets_puts : ∀ (cs : List X1) {ps : List PV} {x : List L1}, X1.gets cs ps = some x → ps = X1.puts cs x ∧ x.length = X1.lens cs
  | [], ps, x, h => by cases ps <;> simp [X1.gets] at h; subst h; exact ⟨rfl, rfl⟩
  | c :: cs, [], x, h => by simp [X1.gets] at h
  | c :: cs, p :: ps, x, h => by
    simp only [X1.gets] at h
    split at h
    · rename_i a b h1 h2
      cases h
      obtain ⟨e1, e2⟩ := X1.get_put c h1
      obtain ⟨e3, e4⟩ := X1.gets_puts cs h2
      refine ⟨?_, by simp only [X1.lens, List.length_append, e2, e4]⟩
      simp only [X1.puts]
      rw [← e2, List.take_left, List.drop_left, ← e1, ← e3]
    · cases h
end
/-- Shapes of rows: one element; any elements; anything. -/
inductive Y1 where
  | one (t s : Nat) (h : X1) | many (t s : Nat) | raw | onef (t s : Nat) (h : X1)
def Y1.get : Y1 → Row → Option (List L1)
  | .one t s h, r => if rowBase r t s && !r.nl then (match r.es with | [e] => h.get e | _ => none) else none
  | .many t s, r => if rowBase r t s then some [.l r.nl r.es] else none
  | .raw, r => some [.r r]
  | .onef t s h, r => if rowBase { r with bv := true } t s && !r.nl && !r.bv then (match r.es with | [e] => h.get e | _ => none) else none
def Y1.len : Y1 → Nat | .one _ _ h => h.len | .many _ _ => 1 | .raw => 1 | .onef _ _ h => h.len
def Y1.put : Y1 → List L1 → Row
  | .one t s h, xs => { es := [h.put xs], s, t, bv := true }
  | .many t s, [.l nl es] => { es, s, t, bv := true, nl }
  | .raw, [.r r] => r
  | .onef t s h, xs => { es := [h.put xs], s, t, bv := false }
  | _, _ => default
theorem Y1.get_put {c : Y1} {p : Row} {x : List L1} (h : c.get p = some x) : p = c.put x ∧ x.length = c.len := by
  cases c with
  | one t s sh =>
    simp only [Y1.get] at h
    split at h
    · rename_i hb
      split at h
      · rename_i e he
        simp only [Bool.and_eq_true, Bool.not_eq_true'] at hb
        obtain ⟨h1, h2⟩ := X1.get_put sh h
        refine ⟨?_, h2⟩
        rw [rowBase_eq hb.1, he, hb.2]
        simp only [Y1.put, ← h1]
      · cases h
    · cases h
  | many t s =>
    simp only [Y1.get] at h
    split at h
    · rename_i hb; cases h; exact ⟨rowBase_eq hb, rfl⟩
    · cases h
  | raw => simp only [Y1.get] at h; cases h; exact ⟨rfl, rfl⟩
  | onef t s sh =>
    simp only [Y1.get] at h
    split at h
    · rename_i hb
      split at h
      · rename_i e he
        simp only [Bool.and_eq_true, Bool.not_eq_true'] at hb
        obtain ⟨h1, h2⟩ := X1.get_put sh h
        refine ⟨?_, h2⟩
        have h3 := rowBase_eq hb.1.1
        have h4 : p = { ({ p with bv := true } : Row) with bv := false } := by
          cases p; simp only at hb; simp only [hb.2]
        rw [h4, h3]
        simp only [he, hb.1.2, Y1.put, ← h1]
      · cases h
    · cases h
def Y1.gets : List Y1 → List Row → Option (List L1)
  | [], [] => some []
  | c :: cs, p :: ps => match c.get p, Y1.gets cs ps with | some x, some xs => some (x ++ xs) | _, _ => none
  | _, _ => none
def Y1.puts : List Y1 → List L1 → List Row
  | [], _ => []
  | c :: cs, xs => Y1.put c (xs.take c.len) :: Y1.puts cs (xs.drop c.len)
theorem Y1.gets_puts : ∀ {cs : List Y1} {ps : List Row} {x : List L1}, Y1.gets cs ps = some x → ps = Y1.puts cs x
  | [], [], x, h => rfl
  | [], _ :: _, x, h => by simp [Y1.gets] at h
  | _ :: _, [], x, h => by simp [Y1.gets] at h
  | c :: cs, p :: ps, x, h => by
    simp only [Y1.gets] at h
    split at h
    · rename_i a b h1 h2
      cases h
      obtain ⟨e1, e2⟩ := Y1.get_put h1
      simp only [Y1.puts]
      rw [← e2, List.take_left, List.drop_left, ← e1, ← Y1.gets_puts h2]
    · cases h
/-- Slots, by their numbers. -/
def slG (shs : List (Nat × X1)) : Nat → Nat → List PV → Option (List L1)
  | 0, _, [] => some []
  | n + 1, x, p :: S => match ((shs.lookup x).getD .any).get p, slG shs n (x + 1) S with | some a, some b => some (a ++ b) | _, _ => none
  | _, _, _ => none
def slP (shs : List (Nat × X1)) : Nat → Nat → List L1 → List PV
  | 0, _, _ => []
  | n + 1, x, xs => ((shs.lookup x).getD .any).put (xs.take ((shs.lookup x).getD .any).len) :: slP shs n (x + 1) (xs.drop ((shs.lookup x).getD .any).len)
theorem slG_P {shs : List (Nat × X1)} : ∀ {n x : Nat} {S : List PV} {xs : List L1}, slG shs n x S = some xs → S = slP shs n x xs
  | 0, _, [], _, _ => rfl
  | 0, _, _ :: _, _, h => by simp [slG] at h
  | _ + 1, _, [], _, h => by simp [slG] at h
  | n + 1, x, p :: S, xs, h => by
    simp only [slG] at h
    split at h
    · rename_i a b h1 h2
      cases h
      obtain ⟨e1, e2⟩ := X1.get_put _ h1
      simp only [slP]
      rw [← e2, List.take_left, List.drop_left, ← e1, ← slG_P h2]
    · cases h
abbrev LS := List L1 × List L1
structure S1 where
  n : Nat
  S : List (Nat × X1)
  H : List Y1
def S1.get (s : S1) (S : List PV) (H : List Row) : Option LS := match slG s.S s.n 0 S, Y1.gets s.H H with | some a, some b => some (a, b) | _, _ => none
def S1.put (s : S1) (x : LS) : List PV × List Row := (slP s.S s.n 0 x.1, Y1.puts s.H x.2)
theorem S1.get_put {s : S1} : ∀ S H x, s.get S H = some x → S = (s.put x).1 ∧ H = (s.put x).2 := by
  intro S H x h
  unfold S1.get at h
  split at h
  · rename_i a b h1 h2; cases h; exact ⟨slG_P h1, Y1.gets_puts h2⟩
  · cases h
/-- One more contract for a loop: it is asked first. -/
def EnvK.addL2 (E : EnvK) (k : FuncId) (i : Nat) (l : List Tmp) (c : Nat → List PV → List Row → Option (DT (PX × List PV × List Row))) : EnvK :=
  { E with live := fun f j => if f = k then (if j = i then some l else E.live f j) else E.live f j
           lo := fun f ro j S H => if f = k then (if j = i then (match c ro S H with | some d => some d | none => E.lo f ro j S H) else E.lo f ro j S H) else E.lo f ro j S H }
theorem EnvOK.addL2 {P : Program} {E : EnvK} (hE : EnvOK P E.env) {k i : Nat} {l : List Tmp} {c : Nat → List PV → List Row → Option (DT (PX × List PV × List Row))} {fn : Func} {body b0 : Code} (hf : P.funcs[k]? = some fn) (hb : fn.body = some body)
    (h0 : (loops body).filter (fun b => rid b == i) = [b0]) (hc : SubCode P k (.loop b0) → ∀ ro S H d x S' H', c ro S H = some d → d.run = some (x, S', H') → WpTo P (.loop b0) ro S H x S' H') : EnvOK P (E.addL2 k i l c).env where
  ent := hE.ent
  cal := hE.cal
  ora := hE.ora
  lo := fun f fn' b' h1 h2 => by
    refine LoH.of fun b hm hs ro S H x S' H' g => ?_
    change ((if f = k then (if rid b = i then (match c ro S H with | some d => some d | none => E.lo f ro (rid b) S H) else E.lo f ro (rid b) S H) else E.lo f ro (rid b) S H)).bind DT.run = some (x, S', H') at g
    have old : (E.lo f ro (rid b) S H).bind DT.run = some (x, S', H') → WpTo P (.loop b) ro S H x S' H' := fun g => (LoH.sub (P := P) (E := E.env) hs (hE.lo f fn' b' h1 h2)).1 ro S H x S' H' g
    split at g
    · rename_i e
      subst e
      split at g
      · rename_i e2
        split at g
        · rename_i d hd
          rw [hf] at h1; cases h1
          rw [hb] at h2; cases h2
          have hb0 : b = b0 := by
            have : b ∈ (loops body).filter (fun b => rid b == i) := List.mem_filter.2 ⟨hm, by simp [e2]⟩
            rw [h0] at this
            simpa using this
          subst hb0
          exact hc ⟨fn, body, hf, hb, hs⟩ ro S H d x S' H' hd g
        · exact old g
      · exact old g
    · exact old g
/-- The loop with this number: states of this shape for which 'pre' holds come to 'fin'. -/
def EnvK.addW (E : EnvK) (k i : Nat) (l : List Tmp) (sel : List Bool) (sh : S1) (pre : LS → Bool) (fin : LS → DT (PX × List PV × List Row)) : EnvK := E.addL2 k i l (byModel sel sh.get pre fin)
theorem EnvOK.addW {P : Program} {E : EnvK} (hE : EnvOK P E.env) {n : Nat} {k i : Nat} {fn : Func} {body b : Code} (hf : P.funcs[k]? = some fn) (hb : fn.body = some body) (h0 : (loops body).filter (fun b => rid b == i) = [b])
    (l l' : List Tmp) (sel : List Bool) (sh : S1) {pre : LS → Bool} (m : LS → Nat) {fin : LS → DT (PX × List PV × List Row)}
    (hstep : ∀ s r, pre s = true → (fin s).run = some r → r.1 ≠ .normal ∧ (runB P E n k b l l' (sh.put s).1 (sh.put s).2 = some r ∨
      ∃ s', runB P E n k b l l' (sh.put s).1 (sh.put s).2 = some (.normal, sh.put s') ∧ pre s' = true ∧ m s' < m s ∧ (fin s').run = some r)) :
    EnvOK P (E.addW k i l sel sh pre fin).env :=
  hE.addL2 hf hb h0 fun hs ro S H d x S' H' => loopW hE l l' sh.put S1.get_put m hstep hs ro S H d x S' H'
/-! Loops of functions that only read some rows: the first ro rows are not written. -/
def runBr (P : Program) (E : EnvK) (n ro : Nat) (f : FuncId) (b : Code) (l l' : List Tmp) (S : List PV) (H : List Row) : Option (PX × List PV × List Row) :=
  execK P E n ro f b S H fun x S1 H1 =>
    need (decide (H.length ≤ H1.length) && rowsOk H.length (H1.take H.length))
      (match x with
      | .normal => frzsK H1 H.length (keepS (some l) S1) fun S2 => some (.normal, trimS H.length S2, H1.take H.length)
      | .exit i => frzsK H1 H.length (keepS (some l') S1) fun S2 => some (.exit i, trimS H.length S2, H1.take H.length)
      | .ret => frzsK H1 H.length (keepS (some l') S1) fun S2 => some (.ret, trimS H.length S2, H1.take H.length))
theorem runBr_sound {P : Program} {E : EnvK} (hE : EnvOK P E.env) {n ro : Nat} {f : FuncId} {b : Code} {l l' : List Tmp} {S S' : List PV} {H H' : List Row} {x : PX} (hb : SubCode P f b) (h : runBr P E n ro f b l l' S H = some (x, S', H')) : WpTo P b ro S H x S' H' := by
  obtain ⟨x1, S1, H1, h1, h2⟩ := execK_ref n _ _ _ _ _ _ _ h
  obtain ⟨h3, h4⟩ := need_some h2
  simp only [Bool.and_eq_true, decide_eq_true_eq] at h3
  have hw := exec_ok hE n _ _ _ _ _ _ _ _ h1 hb
  have key : ∀ L : List Tmp, S' = trimS H.length (frzs H1 H.length (keepS (some L) S1)) → H' = H1.take H.length → WpTo P b ro S H x1 S' H' := by
    rintro L rfl rfl
    intro r C a hH hro hR hs hro2 Q hQ
    refine hw r C a hH hro hR hs hro2 Q fun a' C' hd hH' hxt hR' hs' => ?_
    subst hH
    subst hH'
    exact hQ a' (C'.cut C.H.length False C'.ro) hd rfl (hxt.cut (Nat.le_refl _) h3.1 hR.ro) (hR'.cut h3.1 (by rw [hxt.ro]; exact hR.ro) h3.2) (trimF_sound hR' h3.1 (keepS_sound (some L) hs'))
  cases x1 with
  | normal => cases frzsK_some h4; exact key l rfl rfl
  | exit i => cases frzsK_some h4; exact key l' rfl rfl
  | ret => cases frzsK_some h4; exact key l' rfl rfl
def byModelR {σ : Type} (r : Nat) (get : List PV → List Row → Option σ) (pre : σ → Bool) (fin : σ → DT (PX × List PV × List Row)) (ro : Nat) (S : List PV) (H : List Row) : Option (DT (PX × List PV × List Row)) :=
  match ro == r with
  | true => match get S H with | some s => some (.br (pre s) (fin s) .no) | none => none
  | false => none
theorem loopR {P : Program} {E : EnvK} (hE : EnvOK P E.env) {n q : Nat} {f : FuncId} {b : Code} (l l' : List Tmp) {σ : Type} (emb : σ → List PV × List Row) {get : List PV → List Row → Option σ}
    (hget : ∀ S H s, get S H = some s → S = (emb s).1 ∧ H = (emb s).2) {pre : σ → Bool} (m : σ → Nat) {fin : σ → DT (PX × List PV × List Row)}
    (hstep : ∀ s r, pre s = true → (fin s).run = some r → r.1 ≠ .normal ∧ (runBr P E n q f b l l' (emb s).1 (emb s).2 = some r ∨
      ∃ s', runBr P E n q f b l l' (emb s).1 (emb s).2 = some (.normal, emb s') ∧ pre s' = true ∧ m s' < m s ∧ (fin s').run = some r)) :
    SubCode P f (.loop b) → ∀ (ro : Nat) (S : List PV) (H : List Row) (d : DT (PX × List PV × List Row)) (x : PX) (S' : List PV) (H' : List Row), byModelR q get pre fin ro S H = some d → d.run = some (x, S', H') → WpTo P (.loop b) ro S H x S' H' := by
  intro hsub ro S H d x S' H' hc hd
  unfold byModelR at hc
  split at hc
  · rename_i he
    rw [beq_iff_eq] at he
    subst he
    split at hc
    · rename_i s hs
      obtain rfl := Option.some.inj hc
      obtain ⟨e1, e2⟩ := hget _ _ _ hs
      have hp : pre s = true ∧ (fin s).run = some (x, S', H') := by
        change (match pre s with | true => (fin s).run | false => DT.no.run) = _ at hd
        cases hq : pre s with
        | true => rw [hq] at hd; exact ⟨rfl, hd⟩
        | false => rw [hq] at hd; cases hd
      obtain ⟨hp, hr⟩ := hp
      clear hc hd hs
      have hbody := hsub.sub (.loop .here)
      rw [e2, e1]
      clear e1 e2
      have hx := (hstep s _ hp hr).1
      refine Rnds.loop hx ?_
      generalize hm : m s = k
      induction k using Nat.strongRecOn generalizing s with
      | _ k ih =>
        rcases (hstep s _ hp hr).2 with h1 | ⟨s', h1, h2, h3, h4⟩
        · exact .stop (runBr_sound hE hbody h1)
        · exact .go (runBr_sound hE hbody h1) (ih (m s') (by omega) s' h2 h4 rfl)
    · cases hc
  · cases hc
def EnvK.addWr (E : EnvK) (q k i : Nat) (l : List Tmp) (sh : S1) (pre : LS → Bool) (fin : LS → DT (PX × List PV × List Row)) : EnvK := E.addL2 k i l (byModelR q sh.get pre fin)
theorem EnvOK.addWr {P : Program} {E : EnvK} (hE : EnvOK P E.env) {n q : Nat} {k i : Nat} {fn : Func} {body b : Code} (hf : P.funcs[k]? = some fn) (hb : fn.body = some body) (h0 : (loops body).filter (fun b => rid b == i) = [b])
    (l l' : List Tmp) (sh : S1) {pre : LS → Bool} (m : LS → Nat) {fin : LS → DT (PX × List PV × List Row)}
    (hstep : ∀ s r, pre s = true → (fin s).run = some r → r.1 ≠ .normal ∧ (runBr P E n q k b l l' (sh.put s).1 (sh.put s).2 = some r ∨
      ∃ s', runBr P E n q k b l l' (sh.put s).1 (sh.put s).2 = some (.normal, sh.put s') ∧ pre s' = true ∧ m s' < m s ∧ (fin s').run = some r)) :
    EnvOK P (E.addWr q k i l sh pre fin).env :=
  hE.addL2 hf hb h0 fun hs ro S H d x S' H' => loopR hE l l' sh.put S1.get_put m hstep hs ro S H d x S' H'
/-- At a loop, or at a range over a function (by the number of what it assigns), only these slots are kept. -/
def EnvK.addV (E : EnvK) (k i : Nat) (l : List Tmp) : EnvK := { E with live := fun f j => if f = k then (if j = i then some l else E.live f j) else E.live f j }
theorem EnvOK.addV {P : Program} {E : EnvK} (hE : EnvOK P E.env) (k i : Nat) (l : List Tmp) : EnvOK P (E.addV k i l).env where
  ent := hE.ent
  cal := hE.cal
  ora := hE.ora
  lo := fun f fn b h1 h2 => LoH.mono (E := E.env) (E' := (E.addV k i l).env) (fun _ _ _ _ _ _ _ g => g) (hE.lo f fn b h1 h2)
/-- The ranges over functions in code. -/
def rfs : Code → List (Array Tmp × Code × Code)
  | .seq a b => rfs a ++ rfs b
  | .cond _ x y => rfs x ++ rfs y
  | .block _ b => rfs b
  | .loop b => rfs b
  | .scope b => rfs b
  | .rangeFunc _ ps a b => (ps, a, b) :: (rfs a ++ rfs b)
  | _ => []
noncomputable def rfb (fn : Func) (i : Nat) : Array Tmp × Code × Code := ((rfs (bod fn)).filter fun x => rid x.2.1 == i).headD (#[], .skip, .skip)
noncomputable def lrow (f : FuncId) (fn : Func) (i : Nat) (S : List PV) (st : LSt) : Row := { es := [], s := 0, t := 0, bv := true, live := false, lp := some ⟨⟨f, S, (rfb fn i).1, (rfb fn i).2.1, (rfb fn i).2.2⟩, st⟩ }
/-- Equality of anything, as a Bool that does not compute. -/
noncomputable def same {α : Type} (a b : α) : Bool := @decide (a = b) (Classical.propDecidable _)
theorem same_iff {α : Type} {a b : α} : same a b = true ↔ a = b := by unfold same; exact @decide_eq_true_iff _ (Classical.propDecidable _)
theorem same_self {α : Type} (a : α) : same a a = true := same_iff.2 rfl
end Go.Hx
/- Hx: what a reader reads of an argument is a value of the machine. -/
namespace Go.Hx
open Go.ChangeShapes Go.WideShapes Go.RowKit

/-- Every integer fits its kind. -/
inductive Fit : PV → Prop
  | int {k : IntKind} {n : Int} (h : (Lit.int k n).wf = true) : Fit (.val (.int k n))
  | bool {b : Bool} : Fit (.val (.bool b))
  | str {s : ByteArray} (h : s.size ≤ maxLen) : Fit (.val (.string s))
  | lst {f : Bool} {t : TypeId} {es : List PV} (hl : es.length ≤ maxLen) (h : ∀ e, e ∈ es → ∀ c, c ∈ e.cells → Fit c) : Fit (.lst f t es)

/-- A world in which nothing is one's own. -/
def Ctx.of (w : World) : Ctx := { ρ := fun _ => none, H := [], w := w }
theorem glb_none {P : Program} {C : Ctx} (h : (List.range P.globals.size).all (fun g => !isLaid P g) = true) : Glb P C := fun g hl => by
  have hg : g < P.globals.size := by
    unfold isLaid at hl
    split at hl
    · rename_i G hG; exact (Array.getElem?_eq_some_iff.1 hG).1
    · cases hl
  have := List.all_eq_true.1 h g (List.mem_range.2 hg)
  rw [hl] at this; cases this
theorem of_rh (P : Program) (w : World) (hg : Glb P (Ctx.of w)) : RH P (Ctx.of w) :=
  ⟨fun _ _ _ h => (by cases h), fun _ _ h => (by cases h), fun _ _ _ h => (by cases h), Nat.le_refl _, fun _ _ h => (by cases h), fun _ (h : False) => h.elim, fun _ _ _ _ h => (by cases h), hg⟩
theorem of_ban (w : World) (b : Nat) : ¬ (Ctx.of w).ban b := by
  rintro (⟨i, hi⟩ | hf)
  · cases hi
  · exact hf

theorem wtcs_append : ∀ {k1 k2 : List Kind} {p1 p2 : List PV}, wtcs k1 p1 = true → wtcs k2 p2 = true → wtcs (k1 ++ k2) (p1 ++ p2) = true
  | [], _, [], _, _, h => h
  | [], _, _ :: _, _, h, _ => by simp [wtcs] at h
  | _ :: _, _, [], _, h, _ => by simp [wtcs] at h
  | k :: ks, k2, p :: ps, p2, h, g => by
    simp only [wtcs, Bool.and_eq_true, List.cons_append] at h ⊢
    exact ⟨h.1, wtcs_append h.2 g⟩

/-- Cells that are read as PVs. -/
def CellsOk (P : Program) (w : World) (ks : List Kind) (cs : List Value) (ps : List PV) : Prop :=
  ps.length = cs.length ∧ wtcs ks ps = true ∧ (∀ (j : Nat) p v, ps[j]? = some p → cs[j]? = some v → RV P (Ctx.of w) p v) ∧ ∀ p, p ∈ ps → Fit p
theorem CellsOk.app {P : Program} {w : World} {k1 k2 : List Kind} {c1 c2 : List Value} {p1 p2 : List PV} (h : CellsOk P w k1 c1 p1) (g : CellsOk P w k2 c2 p2) : CellsOk P w (k1 ++ k2) (c1 ++ c2) (p1 ++ p2) := by
  refine ⟨by simp [h.1, g.1], wtcs_append h.2.1 g.2.1, fun j p v hp hv => ?_, fun p hp => ?_⟩
  · rw [List.getElem?_append] at hp hv
    rw [← h.1] at hv
    split at hp
    · rename_i hj; rw [if_pos hj] at hv; exact h.2.2.1 j p v hp hv
    · rename_i hj; rw [if_neg hj] at hv; exact g.2.2.1 _ p v hp hv
  · rcases List.mem_append.1 hp with hp | hp
    · exact h.2.2.2 p hp
    · exact g.2.2.2 p hp

/-- Segments, one behind the other. -/
def cont : List (Nat × Nat × List Kind) → Nat → Nat → Bool
  | [], o, n => o == n
  | (o', s, ks) :: l, o, n => o' == o && ks.length == s && cont l (o + s) n
theorem segs_ok {P : Program} {w : World} {cs : List Value} : ∀ (l : List (Nat × Nat × List Kind)) (o : Nat), cont l o cs.length = true → (∀ x, x ∈ l → ∃ ps, CellsOk P w x.2.2 ((cs.drop x.1).take x.2.1) ps) →
    ∃ ps, CellsOk P w (l.flatMap fun x => x.2.2) (cs.drop o) ps
  | [], o, h, _ => by
    simp only [cont, beq_iff_eq] at h
    subst h
    exact ⟨[], by simp, rfl, fun j p v hp => (by simp at hp), fun p hp => (by cases hp)⟩
  | (o', s, ks) :: l, o, h, hx => by
    simp only [cont, Bool.and_eq_true, beq_iff_eq] at h
    obtain ⟨⟨rfl, hs⟩, hc⟩ := h
    obtain ⟨p1, h1⟩ := hx (o', s, ks) (by simp)
    obtain ⟨p2, h2⟩ := segs_ok l (o' + s) hc fun x hm => hx x (by simp [hm])
    refine ⟨p1 ++ p2, ?_⟩
    have hsplit : cs.drop o' = (cs.drop o').take s ++ cs.drop (o' + s) := by
      rw [← List.drop_drop]; exact (List.take_append_drop s (cs.drop o')).symm
    rw [hsplit]
    exact h1.app h2

/-- Types that the machine takes in: numbers, texts, structs and arrays of these, and slices. -/
def flatB (P : Program) : Nat → Nat → TypeId → Bool
  | 0, _, _ => false
  | _ + 1, 0, _ => false
  | n + 1, d + 1, t =>
    match P.underlying t with
    | some (.int _) => true
    | some .bool => true
    | some .string => true
    | some (.slice e) => flatB P n 12 e && decide (0 < P.cellsOf e) && (kinds P e).length == P.cellsOf e
    | some (.struct fs) => fs.toList.all (fun f => flatB P n d f.type) && cont (fs.toList.map fun f => (f.offset, P.cellsOf f.type, kindsAt P d f.type)) 0 (P.cellsOf t)
    | some (.array m e) => flatB P n d e && cont ((List.range m).map fun i => (i * P.cellsOf e, P.cellsOf e, kindsAt P d e)) 0 (P.cellsOf t)
    | _ => false

/-- An element, of its cells. -/
def mkE (P : Program) (t : TypeId) (ps : List PV) : PV := if isAggT P t then .agg ps else ps.getD 0 .any
theorem mkE_cells {P : Program} {t : TypeId} {ks : List Kind} {ps : List PV} (h : wtcs ks ps = true) (hl : ks.length = P.cellsOf t) (h1 : isAggT P t = false → P.cellsOf t = 1) : (mkE P t ps).cells = ps := by
  unfold mkE
  split
  · rfl
  · rename_i ha
    have hl1 := h1 (by simpa using ha)
    have hp := wtcs_length h
    match ps, hp with
    | [p], _ =>
      match ks, h with
      | [k], h =>
        simp only [wtcs, Bool.and_true] at h
        show PV.cells p = [p]
        unfold wtc at h
        split at h <;> first | rfl | cases h
    | [], hp => simp at hp; omega
    | _ :: _ :: _, hp => simp at hp; omega

theorem cells?_get {w : World} {a : Addr} {n : Nat} {cs : List Value} (h : w.cells? 0 a n = some cs) : cs.length = n ∧ ∀ (x : Nat) v, cs[x]? = some v → w.cell? (a.add x) = some v := by
  obtain ⟨h1, h2, h3⟩ := World.cells?_some h
  refine ⟨by simpa using h2, fun x v hx => ?_⟩
  have hlt : x < cs.length := (List.getElem?_eq_some_iff.1 hx).1
  have := h3 x (by omega)
  rw [this, ← hx]

section
variable {H : Type} {enc : TypeId × Value → H} {P : Program} {w : World} {sp : Nat → Bool} {held : Bool}
theorem trod_int1 {k : IntKind} {t : TypeId} (hu : P.underlying t = some (.int k)) {fuel : Nat} {cs : List Value} {x : DataW H × List MemPlace} (hx : DataW.trod enc P w 0 sp held fuel t cs = some x) : ∃ n, cs = [.int k n] ∧ (Lit.int k n).wf = true := by
  cases fuel with
  | zero => simp [DataW.trod] at hx
  | succ m =>
    unfold DataW.trod at hx
    rw [hu] at hx
    split at hx <;> simp_all
theorem trod_bool1 {t : TypeId} (hu : P.underlying t = some .bool) {fuel : Nat} {cs : List Value} {x : DataW H × List MemPlace} (hx : DataW.trod enc P w 0 sp held fuel t cs = some x) : ∃ b, cs = [.bool b] := by
  cases fuel with
  | zero => simp [DataW.trod] at hx
  | succ m =>
    unfold DataW.trod at hx
    rw [hu] at hx
    split at hx <;> simp_all
theorem trod_string1 {t : TypeId} (hu : P.underlying t = some .string) {fuel : Nat} {cs : List Value} {x : DataW H × List MemPlace} (hx : DataW.trod enc P w 0 sp held fuel t cs = some x) : ∃ s : ByteArray, cs = [.string s] ∧ s.size ≤ maxLen := by
  cases fuel with
  | zero => simp [DataW.trod] at hx
  | succ m =>
    unfold DataW.trod at hx
    rw [hu] at hx
    split at hx <;> simp_all
theorem trod_cells : ∀ (n d : Nat) (t : TypeId), flatB P n d t = true → ∀ (fuel : Nat) (cs : List Value) (x : DataW H × List MemPlace), DataW.trod enc P w 0 sp held fuel t cs = some x → ∃ ps, CellsOk P w (kindsAt P d t) cs ps
  | 0, _, _, h => fun _ _ _ _ => by simp [flatB] at h
  | n + 1, 0, _, h => fun _ _ _ _ => by simp [flatB] at h
  | n + 1, d + 1, t, h => by
    intro fuel cs x hx
    have scalar : ∀ {p : PV} {v : Value} {k : Kind}, cs = [v] → kindsAt P (d + 1) t = [k] → wtc k p = true → RV P (Ctx.of w) p v → Fit p → ∃ ps, CellsOk P w (kindsAt P (d + 1) t) cs ps := by
      intro p v k hc hk hw hr hf
      subst hc
      rw [hk]
      exact ⟨[p], rfl, by simp [wtcs, hw], fun j q u h1 h2 => by
        match j with
        | 0 => simp at h1 h2; subst h1; subst h2; exact hr
        | j + 1 => simp at h1
        , fun q hq => (by simp at hq; subst hq; exact hf)⟩
    unfold flatB at h
    split at h
    · rename_i k hu
      obtain ⟨n, hc, hwf⟩ := trod_int1 hu hx
      exact scalar (k := .int k) hc (by simp [kindsAt, hu]) (by simp [wtc]) .val (.int hwf)
    · rename_i hu
      obtain ⟨b, hc⟩ := trod_bool1 hu hx
      exact scalar (k := .bool) hc (by simp [kindsAt, hu]) rfl .val .bool
    · rename_i hu
      obtain ⟨b, hc, hs⟩ := trod_string1 hu hx
      exact scalar (k := .str) hc (by simp [kindsAt, hu]) rfl .val (.str hs)
    · rename_i e hu
      simp only [Bool.and_eq_true, decide_eq_true_eq, beq_iff_eq] at h
      obtain ⟨⟨he, hpos⟩, hlen⟩ := h
      have hk : kindsAt P (d + 1) t = [.sl e] := by simp [kindsAt, hu]
      rcases DataW.trod_slice hu hx with ⟨rfl, _⟩ | ⟨a, len, cap, elems, rest, m, _, rfl, _, _, hl, hm, hlen2, hel, _, _⟩
      · refine scalar rfl hk (p := .lst false e []) (by simp [wtc]) ?_ (.lst (Nat.zero_le _) fun e' he' => by cases he')
        exact .lst (es := []) 0 0 (fun _ _ => undef) (Nat.le_refl _) (fun h => by cases h) (fun h => by simp at h) (fun x e' j p h => by simp at h) (fun x e' j p h => by simp at h) (fun e' h => by cases h)
      · -- the elements
        have one1 : isAggT P e = false → P.cellsOf e = 1 := by
          intro ha
          have : ∀ D, flatB P n 12 e = true → isAggT P e = false → (kindsAt P 12 e).length = D → D = 1 := by
            intro D hf ha hD
            cases n with
            | zero => simp [flatB] at hf
            | succ n' =>
              unfold flatB at hf
              unfold isAggT at ha
              split at hf <;> rename_i hu2 <;> simp_all [kindsAt]
          exact this _ he ha (by rw [← hlen]; rfl)
        have each : ∀ i, i < len → ∃ (cs' : List Value) (ps : List PV), w.cells? 0 (a.add (i * P.cellsOf e)) (P.cellsOf e) = some cs' ∧ CellsOk P w (kindsAt P 12 e) cs' ps := by
          intro i hi
          have h1 := hel i hi
          have h2 : elems[i]? = some (elems[i]'(by omega)) := List.getElem?_eq_getElem _
          rw [h2] at h1
          obtain ⟨cs', g1, g2⟩ := Option.bind_eq_some_iff.1 h1
          obtain ⟨ps, g3⟩ := trod_cells n 12 e he _ _ _ g2
          exact ⟨cs', ps, g1, g3⟩
        have pick : ∃ (F : Nat → List Value) (G : Nat → List PV), ∀ i, i < len → w.cells? 0 (a.add (i * P.cellsOf e)) (P.cellsOf e) = some (F i) ∧ CellsOk P w (kindsAt P 12 e) (F i) (G i) := by
          have : ∀ i, ∃ y : List Value × List PV, i < len → w.cells? 0 (a.add (i * P.cellsOf e)) (P.cellsOf e) = some y.1 ∧ CellsOk P w (kindsAt P 12 e) y.1 y.2 := by
            intro i
            by_cases hi : i < len
            · obtain ⟨c, p, g1, g2⟩ := each i hi; exact ⟨(c, p), fun _ => ⟨g1, g2⟩⟩
            · exact ⟨([], []), fun h => absurd h hi⟩
          obtain ⟨f, hf⟩ := Classical.axiomOfChoice this
          exact ⟨fun i => (f i).1, fun i => (f i).2, hf⟩
        obtain ⟨F, G, hFG⟩ := pick
        have hcells : ∀ i, i < len → (mkE P e (G i)).cells = G i := fun i hi => mkE_cells (hFG i hi).2.2.1 hlen one1
        have hget : ∀ (i : Nat) q, ((List.range len).map fun i => mkE P e (G i))[i]? = some q → i < len ∧ q = mkE P e (G i) := by
          intro i q hq
          simp only [List.getElem?_map, Option.map_eq_some_iff] at hq
          obtain ⟨j, hj, rfl⟩ := hq
          have hjl : i < len := by
            rcases Nat.lt_or_ge i len with h | h
            · exact h
            · rw [List.getElem?_eq_none (by simpa using h)] at hj; cases hj
          rw [List.getElem?_range hjl] at hj
          cases hj
          exact ⟨hjl, rfl⟩
        have hspot : 0 < len → a.spot = none := by
          intro h0
          obtain ⟨g1, g2⟩ := hFG 0 h0
          obtain ⟨q1, q2⟩ := cells?_get g1
          have hc0 : (F 0)[0]? = some ((F 0)[0]'(by omega)) := List.getElem?_eq_getElem _
          have hz := q2 0 _ hc0
          rw [Nat.zero_mul, show (a.add 0).add 0 = a from rfl] at hz
          exact World.cell?_spot hz
        have hcell : ∀ (i x : Nat) v, i < len → (F i)[x]? = some v → w.cell? ⟨a.block, a.off + i * P.cellsOf e + x, none⟩ = some v := by
          intro i x v hi hv
          have hs := hspot (by omega)
          have := (cells?_get (hFG i hi).1).2 x v hv
          obtain ⟨b, off, spot⟩ := a
          simp only at hs
          subst hs
          have ha : ((⟨b, off, none⟩ : Addr).add (i * P.cellsOf e)).add x = ⟨b, off + i * P.cellsOf e + x, none⟩ := by
            unfold Addr.add
            split <;> split <;> simp_all
          rw [ha] at this
          exact this
        refine scalar rfl hk (p := .lst false e ((List.range len).map fun i => mkE P e (G i))) (by simp [wtc]) ?_ (.lst (by simp; omega) fun e' he' c hc => ?_)
        · have hRV : RV P (Ctx.of w) (.lst false e ((List.range len).map fun i => mkE P e (G i))) (.slice (some a) ((List.range len).map fun i => mkE P e (G i)).length cap) := by
            refine .lst a.block a.off (fun i j => (F i).getD j undef) (by simpa using hl) (fun h => by cases h) (fun h0 => ?_) (fun i q j p hq hj => ?_) (fun i q j p hq hj => ?_) (fun q hq => ?_)
            · have h0' : 0 < len := by simpa using h0
              have hs := hspot h0'
              refine ⟨by obtain ⟨b, off, spot⟩ := a; simp only at hs; subst hs; rfl, of_ban w _, ?_⟩
              obtain ⟨g1, g2⟩ := hFG 0 h0'
              have hc0 : (F 0)[0]? = some ((F 0)[0]'(by rw [(cells?_get g1).1]; omega)) := List.getElem?_eq_getElem _
              have := hcell 0 0 _ h0' hc0
              simp only [World.cell?] at this
              split at this
              · rename_i hb; exact (Array.getElem?_eq_some_iff.1 hb).1
              · cases this
            · obtain ⟨hi, rfl⟩ := hget i q hq
              rw [hcells i hi] at hj
              have hjl : j < (F i).length := by rw [← (hFG i hi).2.1]; exact (List.getElem?_eq_some_iff.1 hj).1
              have hv : (F i)[j]? = some ((F i)[j]) := List.getElem?_eq_getElem hjl
              show w.cell? _ = _
              rw [hcell i j _ hi hv]
              simp [List.getD, hv]
            · obtain ⟨hi, rfl⟩ := hget i q hq
              rw [hcells i hi] at hj
              have hjl : j < (F i).length := by rw [← (hFG i hi).2.1]; exact (List.getElem?_eq_some_iff.1 hj).1
              have hv : (F i)[j]? = some ((F i)[j]) := List.getElem?_eq_getElem hjl
              have := (hFG i hi).2.2.2.1 j p _ hj hv
              simpa [List.getD, hv] using this
            · obtain ⟨i, hiq⟩ := List.getElem?_of_mem hq
              obtain ⟨hi, rfl⟩ := hget i q hiq
              simp only [wt, Bool.and_eq_true, beq_iff_eq]
              exact ⟨by rw [hcells i hi]; exact (hFG i hi).2.2.1, hlen⟩
          simpa using hRV
        · obtain ⟨i, hiq⟩ := List.getElem?_of_mem he'
          obtain ⟨hi, rfl⟩ := hget i e' hiq
          rw [hcells i hi] at hc
          exact (hFG i hi).2.2.2.2 c hc
    · rename_i fs hu
      simp only [Bool.and_eq_true, List.all_eq_true] at h
      obtain ⟨xs, m, _, _, hl, hxs, hf⟩ := DataW.trod_struct hu hx
      have := segs_ok (P := P) (w := w) (cs := cs) (fs.toList.map fun f => (f.offset, P.cellsOf f.type, kindsAt P d f.type)) 0 (by rw [hl]; exact h.2) fun y hy => ?_
      · obtain ⟨ps, hp⟩ := this
        refine ⟨ps, ?_⟩
        have hk : kindsAt P (d + 1) t = (fs.toList.map fun f => (f.offset, P.cellsOf f.type, kindsAt P d f.type)).flatMap fun x => x.2.2 := by
          simp only [kindsAt, hu, List.flatMap_map]
        rw [hk]
        simpa using hp
      · simp only [List.mem_map] at hy
        obtain ⟨f, hfm, rfl⟩ := hy
        obtain ⟨i, hi⟩ := List.getElem?_of_mem hfm
        have hfi : fs[i]? = some f := by simpa using hi
        have h1 := hf i f hfi
        have hil : i < xs.length := by rw [hxs]; exact (Array.getElem?_eq_some_iff.1 hfi).1
        rw [List.getElem?_eq_getElem hil] at h1
        exact trod_cells n d f.type (h.1 f hfm) _ _ _ h1
    · rename_i m e hu
      simp only [Bool.and_eq_true] at h
      obtain ⟨xs, mm, _, _, hl, hxs, hf⟩ := DataW.trod_array hu hx
      have := segs_ok (P := P) (w := w) (cs := cs) ((List.range m).map fun i => (i * P.cellsOf e, P.cellsOf e, kindsAt P d e)) 0 (by rw [hl]; exact h.2) fun y hy => ?_
      · obtain ⟨ps, hp⟩ := this
        refine ⟨ps, ?_⟩
        have hk : kindsAt P (d + 1) t = ((List.range m).map fun i => (i * P.cellsOf e, P.cellsOf e, kindsAt P d e)).flatMap fun x => x.2.2 := by
          simp only [kindsAt, hu, List.flatMap_map]
          rw [List.flatten_eq_flatMap]
          clear hp hf hxs hx
          have : ∀ (l : List Nat) (k : List Kind), (List.replicate l.length k).flatMap id = l.flatMap fun _ => k := by
            intro l k
            induction l with
            | nil => rfl
            | cons a l ih => simp only [List.length_cons, List.replicate_succ, List.flatMap_cons, id, ih]
          have h2 := this (List.range m) (kindsAt P d e)
          rwa [List.length_range] at h2
        rw [hk]
        simpa using hp
      · simp only [List.mem_map, List.mem_range] at hy
        obtain ⟨i, hi, rfl⟩ := hy
        have h1 := hf i hi
        rw [List.getElem?_eq_getElem (by rw [hxs]; exact hi)] at h1
        exact trod_cells n d e h.1 _ _ _ h1
    · cases h
end
section
variable {H : Type} {enc : TypeId × Value → H} {P : Program} {w : World} {sp : Nat → Bool} {held : Bool} {base : Nat}
/-- An argument, as the machine takes it. -/
theorem arg_rv {t : TypeId} {v : Value} {d : DataW H} {p : List MemPlace} (hval : Value.okWide P w .any base t v) (h : DataW.Trod enc P w 0 sp held t v d p) (hf : flatB P 20 12 t = true) :
    ∃ ps, wtcs (kinds P t) ps = true ∧ (∀ p, p ∈ ps → Fit p) ∧ RV P (Ctx.of w) (mkE P t ps) v := by
  have hd := h
  obtain ⟨fuel, hx⟩ := h
  obtain ⟨ps, h1, h2, h3, h4⟩ := trod_cells 20 12 t hf _ _ _ hx
  refine ⟨ps, h2, h4, ?_⟩
  have scalar : v.cells.toList = [v] → isAggT P t = false → RV P (Ctx.of w) (mkE P t ps) v := by
    intro hc ha
    rw [hc] at h1 h3
    match ps, h1 with
    | [q], _ =>
      have := h3 0 q v rfl rfl
      simpa [mkE, ha] using this
  unfold flatB at hf
  split at hf
  · rename_i k hu
    obtain ⟨n, rfl, _⟩ := open_int hu hval hd
    exact scalar rfl (by simp [isAggT, hu])
  · rename_i hu
    obtain ⟨b, rfl, _⟩ := open_bool hu hval hd
    exact scalar rfl (by simp [isAggT, hu])
  · rename_i hu
    obtain ⟨b, rfl⟩ := okWide_string hu hval
    exact scalar rfl (by simp [isAggT, hu])
  · rename_i e hu
    obtain ⟨a, len, cap, rfl⟩ := okWide_slice hu hval
    exact scalar rfl (by simp [isAggT, hu])
  · rename_i fs hu
    obtain ⟨cs, rfl, hl⟩ := okWide_struct hu hval
    have ha : isAggT P t = true := by simp [isAggT, hu]
    unfold mkE
    rw [if_pos ha]
    exact .agg (by simpa [Value.cells] using h1.symm) fun j c u g1 g2 => h3 j c u g1 (by simpa [Value.cells] using g2)
  · rename_i m e hu
    unfold Value.okWide at hval
    rw [hu] at hval
    obtain ⟨cs, rfl, hl, _⟩ := hval
    have ha : isAggT P t = true := by simp [isAggT, hu]
    unfold mkE
    rw [if_pos ha]
    exact .agg (by simpa [Value.cells] using h1.symm) fun j c u g1 g2 => h3 j c u g1 (by simpa [Value.cells] using g2)
  · cases hf
end
theorem Same.below {w w' : World} (h : Same w w') : Below w.heap.size w w' := ⟨h.os, h.tape, h.output, h.size, h.block⟩
/-- The law's call: true, and nothing that was there has turned. -/
theorem law_calls {P : Program} {k : FuncId} {args : List PV} {Vs : Array Value} {w : World} (h : PCall P k args (.val (.bool true))) (hv : Cs P (Ctx.of w) args Vs) (hg : Glb P (Ctx.of w) := by exact glb_none (by decide +kernel)) : Calls P k Vs w fun e w' => e = .returned (.bool true) ∧ Below w.heap.size w w' := by
  refine (h (Ctx.of w) (of_rh P w hg) Vs hv).mono ?_
  rintro e w' ⟨V, rfl, hs, hrv⟩
  cases hrv
  exact ⟨rfl, hs.below⟩
end Go.Hx
