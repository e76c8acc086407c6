/- Hx: the machine in continuations: calls, regions, code; it says no more than the machine. -/
import Derived.Test.YtadcoepikgjgmaaHxK
namespace Go.Hx

abbrev ExK (α : Type) := Nat → FuncId → Code → List PV → List Row → (PX → List PV → List Row → Option α) → Option α

section
variable {α : Type}
def resAllK (P : Program) (S : List PV) (H : List Row) : List ResultVar → (List PV → Option α) → Option α
  | [], k => k []
  | .tmp t :: rs, k => resAllK P S H rs fun ps => k (S.getD t (.val undef) :: ps)
  | .cell a t :: rs, k => need (okPtr H (S.getD a (.val undef))) (loadK P H t (S.getD a (.val undef)) fun p => resAllK P S H rs fun ps => k (p :: ps))
theorem resAllK_some {P : Program} {S : List PV} {H : List Row} : ∀ {rs : List ResultVar} {k : List PV → Option α} {r : α}, resAllK P S H rs k = some r → ∃ ps, resAll P S H rs = some ps ∧ k ps = some r
  | [], k, r, h => ⟨[], rfl, h⟩
  | .tmp t :: rs, k, r, h => by
    obtain ⟨ps, h1, h2⟩ := resAllK_some (rs := rs) h
    exact ⟨_, by simp only [resAll, resOne, h1], h2⟩
  | .cell a t :: rs, k, r, h => by
    obtain ⟨g1, g2⟩ := need_some h
    obtain ⟨p, g3, g4⟩ := loadK_some g2
    obtain ⟨ps, h1, h2⟩ := resAllK_some (rs := rs) g4
    exact ⟨_, by simp only [resAll, resOne, h1]; rw [if_pos g1]; simp only [g3], h2⟩
def resK (P : Program) (fn : Func) (S : List PV) (H : List Row) (k : PV → Option α) : Option α :=
  resAllK P S H fn.results.toList fun ps => match ps with | [p] => k p | ps => k (.tup ps)
theorem resK_some {P : Program} {fn : Func} {S : List PV} {H : List Row} {k : PV → Option α} {r : α} (h : resK P fn S H k = some r) : ∃ p, resQ P fn S H = some p ∧ k p = some r := by
  obtain ⟨ps, h1, h2⟩ := resAllK_some h
  unfold resQ
  rw [h1]
  split at h2
  · exact ⟨_, rfl, h2⟩
  · rename_i hne
    refine ⟨.tup ps, ?_, h2⟩
    split
    · rename_i q hq; cases hq; exact absurd rfl (hne _)
    · rename_i hq; cases hq; rfl
    · rename_i hq; cases hq

def callXK (P : Program) (ex : ExK α) (ro : Nat) (f : FuncId) (args : List PV) (H : List Row) (k : PV → List Row → Option α) : Option α :=
  match P.funcs[f]? with
  | some fn =>
    match fn.body with
    | some b =>
      match fn.name == "runtime.NumGoroutine" with
      | true => none
      | false =>
        ex ro f b (args ++ List.replicate (fn.ntmps - args.length) (.val undef)) H fun x S' H' =>
          match x with
          | .exit _ => none
          | _ => resK P fn S' H' fun p => k p H'
    | none => none
  | none => none
def callIK (P : Program) (E : EnvK) (ex : ExK α) (ro : Nat) (f : FuncId) (args : List PV) (H : List Row) (k : PV → List Row → Option α) : Option α :=
  match E.cal ro f args H with
  | some d => d.go fun r => k r.1 r.2
  | none => callXK P ex ro f args H k
/-- What frz does, its questions outermost. -/
def frzK (H : List Row) (h : Nat) (p : PV) (k : PV → Option α) : Option α :=
  match p with
  | .sl i n m len =>
    bif decide (h ≤ i) then
      match rowAt H i with
      | some r => bif r.bv then need (r.es.length == n) (k (.lst false r.t ((r.es.drop m).take len))) else k (.sl i n m len)
      | none => k (.sl i n m len)
    else k (.sl i n m len)
  | p => k (frz H h p)
theorem frzK_some {H : List Row} {h : Nat} {p : PV} {k : PV → Option α} {r : α} (g : frzK H h p k = some r) : k (frz H h p) = some r := by
  unfold frzK at g
  split at g
  · rename_i i n m len
    rw [frz]
    by_cases hh : h ≤ i
    · rw [if_pos hh]
      rw [decide_eq_true hh, cond_true] at g
      cases hr : rowAt H i with
      | none => rw [hr] at g; exact g
      | some r0 =>
        rw [hr] at g
        dsimp only at g ⊢
        cases hb : r0.bv with
        | true =>
          rw [hb, cond_true] at g
          obtain ⟨g1, g2⟩ := need_some g
          rw [g1]
          exact g2
        | false => rw [hb] at g; exact g
    · rw [if_neg hh]
      rw [decide_eq_false hh, cond_false] at g
      exact g
  · exact g
def frzsK (H : List Row) (h : Nat) : List PV → (List PV → Option α) → Option α
  | [], k => k []
  | p :: ps, k => frzK H h p fun q => frzsK H h ps fun qs => k (q :: qs)
theorem frzsK_some {H : List Row} {h : Nat} : ∀ {ps : List PV} {k : List PV → Option α} {r : α}, frzsK H h ps k = some r → k (frzs H h ps) = some r
  | [], k, r, g => by rw [frzs]; exact g
  | p :: ps, k, r, g => by rw [frzs]; exact frzsK_some (ps := ps) (frzK_some g)
def oraK (r : PV) (as args : List PV) (k : PV → Option α) : Option α :=
  need (mlts 0 as && mlt 0 r && (plain r || mlts 0 args)) (k r)
def callGK (P : Program) (E : EnvK) (ex : ExK α) (ro : Nat) (f : FuncId) (args : List PV) (H : List Row) (k : PV → List Row → Option α) : Option α :=
  frzsK H 0 args fun as =>
  match E.orD f as with
  | some d => d.go fun r => oraK r as args fun p => k p H
  | none =>
  match E.ora f as with
  | some r => oraK r as args fun p => k p H
  | none => callIK P E ex ro f args H fun p H' =>
      bif E.keep f then k p H' else frzK H' H.length p fun q => need (mlt H.length q && rowsOk H.length (H'.take H.length)) (k q (H'.take H.length))
def callEK (P : Program) (E : EnvK) (ex : ExK α) (f : FuncId) (args : List PV) (H : List Row) (k : PV → Option α) : Option α :=
  need (mlts H.length args && rowsOk H.length H)
    (frzsK H 0 args fun as =>
    match E.orD f as with
    | some d => d.go fun r => oraK r as args k
    | none =>
    match E.ora f as with
    | some r => oraK r as args k
    | none => callIK P E ex H.length f args H fun p H' => frzK H' H.length p fun q => need (mlt H.length q) (k q))

def Ref (exK : ExK α) (ex : Ex) : Prop := ∀ ro f c S H (k : PX → List PV → List Row → Option α) r, exK ro f c S H k = some r → ∃ x S' H', ex ro f c S H = some (x, S', H') ∧ k x S' H' = some r

theorem callXK_some {P : Program} {exK : ExK α} {ex : Ex} (hr : Ref exK ex) {ro : Nat} {f : FuncId} {args : List PV} {H : List Row} {k : PV → List Row → Option α} {r : α} (h : callXK P exK ro f args H k = some r) :
    ∃ p H', callX P ex ro f args H = some (p, H') ∧ k p H' = some r := by
  unfold callXK at h
  split at h
  · rename_i fn hfn
    split at h
    · rename_i b hb
      split at h
      · cases h
      · rename_i hn
        obtain ⟨x, S', H', h1, h2⟩ := hr _ _ _ _ _ _ _ h
        have : x ≠ .exit (match x with | .exit i => i | _ => 0) ∧ resK P fn S' H' (fun p => k p H') = some r := by
          cases x with
          | exit i => cases h2
          | normal => exact ⟨by simp, h2⟩
          | ret => exact ⟨by simp, h2⟩
        obtain ⟨p, h3, h4⟩ := resK_some this.2
        refine ⟨p, H', ?_, h4⟩
        unfold callX
        simp only [hfn, hb]
        rw [if_neg (by simp [hn]), h1]
        cases x with
        | exit i => cases h2
        | normal => simp only [h3, Option.map_some]
        | ret => simp only [h3, Option.map_some]
    · cases h
  · cases h
theorem callIK_some {P : Program} {E : EnvK} {exK : ExK α} {ex : Ex} (hr : Ref exK ex) {ro : Nat} {f : FuncId} {args : List PV} {H : List Row} {k : PV → List Row → Option α} {r : α} (h : callIK P E exK ro f args H k = some r) :
    ∃ p H', callI P E.env ex ro f args H = some (p, H') ∧ k p H' = some r := by
  unfold callIK at h
  unfold callI EnvK.env
  dsimp only
  split at h
  · rename_i d hd
    obtain ⟨a, h1, h2⟩ := DT.go_some h
    rw [hd]
    simp only [Option.bind_some, h1]
    exact ⟨_, _, rfl, h2⟩
  · rename_i hd
    rw [hd]
    exact callXK_some hr h
theorem oraK_some {E : EnvK} {f : FuncId} {args : List PV} {H : List Row} {p : PV} {k : PV → Option α} {r : α} (ho : E.env.ora f (frzs H 0 args) = some p) (h : oraK p (frzs H 0 args) args k = some r) : callO E.env f args H = some p ∧ k p = some r := by
  obtain ⟨h1, h2⟩ := need_some h
  refine ⟨?_, h2⟩
  unfold callO
  rw [ho]
  dsimp only
  rw [if_pos h1]
theorem ora_of {E : EnvK} {f : FuncId} {a : List PV} {p : PV} (hd : E.orD f a = none) (h : E.ora f a = some p) : E.env.ora f a = some p := by
  show (match E.orD f a with | some d => d.run | none => E.ora f a) = _
  rw [hd]; exact h
theorem ora_orD {E : EnvK} {f : FuncId} {a : List PV} {p : PV} {d : DT PV} (hd : E.orD f a = some d) (h : d.run = some p) : E.env.ora f a = some p := by
  show (match E.orD f a with | some d => d.run | none => E.ora f a) = _
  rw [hd]; exact h
theorem ora_none {E : EnvK} {f : FuncId} {a : List PV} (hd : E.orD f a = none) (h : E.ora f a = none) : E.env.ora f a = none := by
  show (match E.orD f a with | some d => d.run | none => E.ora f a) = _
  rw [hd]; exact h
theorem callGK_some {P : Program} {E : EnvK} {exK : ExK α} {ex : Ex} (hr : Ref exK ex) {ro : Nat} {f : FuncId} {args : List PV} {H : List Row} {k : PV → List Row → Option α} {r : α} (h : callGK P E exK ro f args H k = some r) :
    ∃ p H', callG P E.env ex ro f args H = some (p, H') ∧ k p H' = some r := by
  unfold callGK at h
  replace h := frzsK_some h
  unfold callG
  split at h
  · rename_i d hd
    obtain ⟨p, g1, g2⟩ := DT.go_some h
    obtain ⟨h1, h2⟩ := oraK_some (ora_orD hd g1) g2
    rw [h1]
    exact ⟨_, _, rfl, h2⟩
  rename_i hd
  split at h
  · rename_i p hp
    obtain ⟨h1, h2⟩ := oraK_some (ora_of hd hp) h
    rw [h1]
    exact ⟨_, _, rfl, h2⟩
  · rename_i hn
    have : callO E.env f args H = none := by
      unfold callO
      rw [ora_none hd hn]
    rw [this]
    obtain ⟨p, H', h1, h2⟩ := callIK_some hr h
    simp only [h1]
    show ∃ q H2, (if E.keep f = true then some (p, H') else some (settle H.length p H')) = some (q, H2) ∧ _
    cases hk : E.keep f with
    | true => rw [hk] at h2; exact ⟨_, _, rfl, h2⟩
    | false =>
      rw [hk, cond_false] at h2
      obtain ⟨g1, g2⟩ := need_some (frzK_some h2)
      refine ⟨_, _, by rw [if_neg (by simp)]; simp only [settle]; rw [if_pos g1], g2⟩
theorem callEK_some {P : Program} {E : EnvK} {exK : ExK α} {ex : Ex} (hr : Ref exK ex) {f : FuncId} {args : List PV} {H : List Row} {k : PV → Option α} {r : α} (h : callEK P E exK f args H k = some r) :
    ∃ p, callE P E.env ex f args H = some p ∧ k p = some r := by
  obtain ⟨h0, h⟩ := need_some h
  replace h := frzsK_some h
  unfold callE
  rw [if_pos h0]
  split at h
  · rename_i d hd
    obtain ⟨p, g1, g2⟩ := DT.go_some h
    obtain ⟨h1, h2⟩ := oraK_some (ora_orD hd g1) g2
    rw [h1]
    exact ⟨_, rfl, h2⟩
  rename_i hd
  split at h
  · rename_i p hp
    obtain ⟨h1, h2⟩ := oraK_some (ora_of hd hp) h
    rw [h1]
    exact ⟨_, rfl, h2⟩
  · rename_i hn
    have : callO E.env f args H = none := by
      unfold callO
      rw [ora_none hd hn]
    rw [this]
    obtain ⟨p, H', h1, h2⟩ := callIK_some hr h
    obtain ⟨g1, g2⟩ := need_some (frzK_some h2)
    simp only [h1]
    exact ⟨_, by rw [if_pos g1], g2⟩

def yieldK (ex : ExK α) (ro i : Nat) (args : List PV) (H : List Row) (k : PV → List Row → Option α) : Option α :=
  match loopAt H i with
  | some ⟨kk, .ready⟩ =>
    need (decide (ro ≤ i) && args.length == kk.ps.size)
      (ex ro kk.f kk.asg (setPs kk.S0 kk.ps.toList args) H fun x S1 H1 =>
        match x with
        | .normal =>
          match loopAt H1 i, setSt H1 i .busy with
          | some ⟨_, .ready⟩, some H2 =>
            ex ro kk.f kk.body S1 H2 fun x _ H3 =>
              match x with
              | .normal => dflt (setSt H3 i .ready) fun H4 => k (.val (.bool true)) H4
              | .exit id => dflt (setSt H3 i (.done (.exit id))) fun H4 => k (.val (.bool false)) H4
              | .ret => dflt (setSt H3 i (.done .ret)) fun H4 => k (.val (.bool false)) H4
          | _, _ => none
        | _ => none)
  | _ => none
theorem yieldK_some {exK : ExK α} {ex : Ex} (hr : Ref exK ex) {ro i : Nat} {args : List PV} {H : List Row} {k : PV → List Row → Option α} {r : α} (h : yieldK exK ro i args H k = some r) :
    ∃ b H', yieldQ ex ro i args H = some (b, H') ∧ k (.val (.bool b)) H' = some r := by
  unfold yieldK at h
  unfold yieldQ
  split at h
  · rename_i kk hk
    rw [hk]
    obtain ⟨h1, h2⟩ := need_some h
    dsimp only
    rw [if_pos h1]
    obtain ⟨x, S1, H1, h3, h4⟩ := hr _ _ _ _ _ _ _ h2
    rw [h3]
    split at h4
    · dsimp only
      split at h4
      · rename_i H2 hl hs
        rw [hl, hs]
        obtain ⟨x, S3, H3, h5, h6⟩ := hr _ _ _ _ _ _ _ h4
        dsimp only
        rw [h5]
        cases x with
        | normal =>
          obtain ⟨H4, h7, h8⟩ := dflt_some h6
          simp only [jumpOf, h7, Option.map_some]
          exact ⟨_, _, rfl, h8⟩
        | exit id =>
          obtain ⟨H4, h7, h8⟩ := dflt_some h6
          simp only [jumpOf, h7, Option.map_some]
          exact ⟨_, _, rfl, h8⟩
        | ret =>
          obtain ⟨H4, h7, h8⟩ := dflt_some h6
          simp only [jumpOf, h7, Option.map_some]
          exact ⟨_, _, rfl, h8⟩
      · cases h4
    · cases h4
  · cases h
def overK (S : List PV) (i : Nat) (H : List Row) (k : PX → List PV → List Row → Option α) : Option α :=
  match loopAt H i, setSt H i .over with
  | some ⟨_, .ready⟩, some H' => k .normal S H'
  | some ⟨_, .done .ret⟩, some H' => k .ret S H'
  | some ⟨_, .done (.exit id)⟩, some H' => k (.exit id) S H'
  | _, _ => none
theorem overK_some {S : List PV} {i : Nat} {H : List Row} {k : PX → List PV → List Row → Option α} {r : α} (h : overK S i H k = some r) : ∃ x S' H', overQ S i H = some (x, S', H') ∧ k x S' H' = some r := by
  unfold overK at h
  unfold overQ
  split at h
  · rename_i h1 h2; rw [h1, h2]; exact ⟨_, _, _, rfl, h⟩
  · rename_i h1 h2; rw [h1, h2]; exact ⟨_, _, _, rfl, h⟩
  · rename_i h1 h2; rw [h1, h2]; exact ⟨_, _, _, rfl, h⟩
  · cases h

def stepK (P : Program) (E : EnvK) (ex : ExK α) (ro : Nat) (S : List PV) (H : List Row) (o : Oper) (k : PV → List Row → Option α) : Option α :=
  popK P H (ev S) o.op (fun p => k p H) (newK P H (ev S) o.op (fun p r => k p (H ++ [r]))
    (match o.op with
      | .store T a x => storeK P ro H T (ev S a) (ev S x) fun H' => k (.val undef) H'
      | .call c =>
        match c.callee with
        | .builtin .append => match c.args.toList with | [x, y] => appendK P ro H c (ev S x) (ev S y) k | _ => none
        | .value g => match ev S g with | .fn (.func f) first cap => callGK P E ex ro f (first ++ c.args.toList.map (ev S) ++ cap) H k | .yld i => yieldK ex ro i (c.args.toList.map (ev S)) H k | _ => none
        | _ => moreK P ro H (ev S) o.op k
      | _ => moreK P ro H (ev S) o.op k))
theorem stepK_some {P : Program} {E : EnvK} {exK : ExK α} {ex : Ex} (hr : Ref exK ex) {ro : Nat} {S : List PV} {H : List Row} {o : Oper} {k : PV → List Row → Option α} {r : α} (h : stepK P E exK ro S H o k = some r) :
    ∃ p H', stepS P E.env ex ro S H o = some (p, H') ∧ k p H' = some r := by
  unfold stepK at h
  unfold stepS
  rcases popK_some h with ⟨p, h1, h2⟩ | ⟨h1, h⟩
  · exact ⟨p, H, by rw [h1], h2⟩
  · rw [h1]
    rcases newK_some h with ⟨p, rw', h3, h4⟩ | ⟨h3, h⟩
    · exact ⟨p, _, by rw [h3], h4⟩
    · rw [h3]
      dsimp only
      split at h
      · rename_i hop
        simp only [hop]
        obtain ⟨H', h5, h6⟩ := storeK_some h
        exact ⟨_, _, by rw [h5]; rfl, h6⟩
      · rename_i c hop
        simp only [hop]
        split at h
        · rename_i hc
          simp only [hc]
          split at h
          · rename_i x y ha
            simp only [ha]
            exact appendK_some h
          · cases h
        · rename_i g hc
          simp only [hc]
          split at h
          · rename_i f first cap hg
            simp only [hg]
            exact callGK_some hr h
          · rename_i i hg
            simp only [hg]
            obtain ⟨b, H', h5, h6⟩ := yieldK_some hr h
            exact ⟨_, _, by rw [h5]; rfl, h6⟩
          · cases h
        · obtain ⟨p, H', h5, h6⟩ := moreK_some h
          refine ⟨p, H', ?_, h6⟩
          split
          · rename_i hc; exact absurd hc (by assumption)
          · rename_i hc; exact ((by assumption : ∀ f, c.callee = .value f → False) _ hc).elim
          · rw [← hop]; exact h5
      · obtain ⟨p, H', h5, h6⟩ := moreK_some h
        refine ⟨p, H', ?_, h6⟩
        split
        · rename_i hc; exact ((by assumption : ∀ T a x, o.op = .store T a x → False) _ _ _ hc).elim
        · rename_i hc; exact ((by assumption : ∀ c, o.op = .call c → False) _ hc).elim
        · exact h5

def stepEK (P : Program) (E : EnvK) (ex : ExK α) (S : List PV) (H : List Row) (o : Oper) (k : PV → List Row → Option α) : Option α :=
  popK P H (ev S) o.op (fun p => k p H) (newK P H (ev S) o.op (fun p r => k p (H ++ [r]))
    (match o.op with
      | .call c =>
        match c.callee with
        | .value g => match ev S g with | .fn (.func f) first cap => callEK P E ex f (first ++ c.args.toList.map (ev S) ++ cap) H fun p => k p H | _ => none
        | _ => none
      | _ => none))
theorem stepEK_some {P : Program} {E : EnvK} {exK : ExK α} {ex : Ex} (hr : Ref exK ex) {S : List PV} {H : List Row} {o : Oper} {k : PV → List Row → Option α} {r : α} (h : stepEK P E exK S H o k = some r) :
    ∃ p H', stepE P E.env ex S H o = some (p, H') ∧ k p H' = some r := by
  unfold stepEK at h
  unfold stepE
  rcases popK_some h with ⟨p, h1, h2⟩ | ⟨h1, h⟩
  · exact ⟨p, H, by rw [h1], h2⟩
  · rw [h1]
    rcases newK_some h with ⟨p, rw', h3, h4⟩ | ⟨h3, h⟩
    · exact ⟨p, _, by rw [h3], h4⟩
    · rw [h3]
      dsimp only
      split at h
      · rename_i c hop
        simp only [hop]
        split at h
        · rename_i g hc
          simp only [hc]
          split at h
          · rename_i f first cap hg
            simp only [hg]
            obtain ⟨p, h5, h6⟩ := callEK_some hr h
            exact ⟨p, H, by rw [h5]; rfl, h6⟩
          · cases h
        · cases h
      · cases h

def guardK (ops : Array Oper) (S : List PV) (o : Oper) (k : Bool → List PV → Option α) : Option α :=
  match o.guard with
  | none => k true S
  | some (j, want) =>
    match (ops[j]?).bind (·.dst) with
    | none => k false S
    | some d =>
      match S[d]? with
      | none => k false S
      | some (.val (.bool t)) => bif t then k want (S.set d (.val (.bool true))) else k (!want) (S.set d (.val (.bool false)))
      | some (.val _) => k false S
      | some _ => none
theorem guardK_some {ops : Array Oper} {S : List PV} {o : Oper} {k : Bool → List PV → Option α} {r : α} (h : guardK ops S o k = some r) : ∃ b S1, guardQ ops S o = some (b, S1) ∧ k b S1 = some r := by
  unfold guardK at h
  unfold guardQ
  split at h
  · rename_i hg; rw [hg]; exact ⟨_, _, rfl, h⟩
  · rename_i j want hg
    rw [hg]
    dsimp only
    split at h
    · rename_i hd; rw [hd]; exact ⟨_, _, rfl, h⟩
    · rename_i d hd
      rw [hd]
      dsimp only
      split at h
      · rename_i hs; rw [hs]; exact ⟨_, _, rfl, h⟩
      · rename_i t hs
        rw [hs]
        cases t
        · exact ⟨_, _, rfl, h⟩
        · exact ⟨_, _, rfl, h⟩
      · rename_i v hv hs
        rw [hs]
        refine ⟨false, S, ?_, h⟩
        cases v <;> first | rfl | exact absurd rfl (hv _)
      · cases h

def opsK (step : List PV → List Row → Oper → (PV → List Row → Option α) → Option α) (ops : Array Oper) : List Oper → List PV → List Row → (List PV → List Row → Option α) → Option α
  | [], S, H, k => k S H
  | o :: os, S, H, k => guardK ops S o fun w S1 =>
    match w with
    | true => step S1 H o fun p H1 => opsK step ops os (putS S1 o.dst p) H1 k
    | false => opsK step ops os (putS S1 o.dst (.val undef)) H k
theorem opsK_some {stK : List PV → List Row → Oper → (PV → List Row → Option α) → Option α} {st : List PV → List Row → Oper → Option (PV × List Row)}
    (hst : ∀ S H o k r, stK S H o k = some r → ∃ p H', st S H o = some (p, H') ∧ k p H' = some r) {ops : Array Oper} :
    ∀ {os : List Oper} {S : List PV} {H : List Row} {k : List PV → List Row → Option α} {r : α}, opsK stK ops os S H k = some r → ∃ S' H', opsQ st ops os S H = some (S', H') ∧ k S' H' = some r
  | [], S, H, k, r, h => ⟨S, H, rfl, h⟩
  | o :: os, S, H, k, r, h => by
    obtain ⟨w, S1, h1, h2⟩ := guardK_some h
    simp only [opsQ, h1]
    cases w with
    | true =>
      obtain ⟨p, H1, h3, h4⟩ := hst _ _ _ _ _ h2
      simp only [h3]
      exact opsK_some hst (os := os) h4
    | false => exact opsK_some hst (os := os) h2

def stepXK (P : Program) (E : EnvK) (ex : ExK α) (K : List Nat) (S : List PV) (H : List Row) (o : Oper) (k : PV → List Row → Option α) : Option α :=
  match K with
  | [] => stepEK P E ex S H o k
  | x :: K => popK P (kill (x :: K) H) (ev S) o.op (fun p => k p H) (newK P H (ev S) o.op (fun p r => k p (H ++ [r])) none)
theorem stepXK_some {P : Program} {E : EnvK} {exK : ExK α} {ex : Ex} (hr : Ref exK ex) {K : List Nat} {S : List PV} {H : List Row} {o : Oper} {k : PV → List Row → Option α} {r : α} (h : stepXK P E exK K S H o k = some r) :
    ∃ p H', stepX P E.env ex K S H o = some (p, H') ∧ k p H' = some r := by
  cases K with
  | nil => exact stepEK_some hr h
  | cons x K =>
    unfold stepXK at h
    unfold stepX
    rcases popK_some h with ⟨p, h1, h2⟩ | ⟨h1, h⟩
    · exact ⟨p, H, by simp only [h1], h2⟩
    · rcases newK_some h with ⟨p, rw', h3, h4⟩ | ⟨h3, h⟩
      · exact ⟨p, _, by simp only [h1, h3]; rfl, h4⟩
      · cases h
def stepMEK (P : Program) (E : EnvK) (ex : ExK α) (W R K : List Nat) (S : List PV) (H : List Row) (o : Oper) (k : PV → List Row → Option α) : Option α :=
  stepXK P E ex K S (poison R H) o fun p H1 =>
    match H1.drop H.length with
    | [] => k p H
    | [r] => need (W.contains H.length && !R.contains H.length) (k p (H ++ [r]))
    | _ => none
theorem stepMEK_some {P : Program} {E : EnvK} {exK : ExK α} {ex : Ex} (hr : Ref exK ex) {W R K : List Nat} {S : List PV} {H : List Row} {o : Oper} {k : PV → List Row → Option α} {r : α} (h : stepMEK P E exK W R K S H o k = some r) :
    ∃ p H', stepME P E.env ex W R K S H o = some (p, H') ∧ k p H' = some r := by
  obtain ⟨p, H1, h1, h2⟩ := stepXK_some hr h
  unfold stepME
  rw [h1]
  dsimp only
  split at h2
  · rename_i hd; rw [hd]; exact ⟨_, _, rfl, h2⟩
  · rename_i hd
    rw [hd]
    obtain ⟨h3, h4⟩ := need_some h2
    dsimp only
    rw [if_pos h3]
    exact ⟨_, _, rfl, h4⟩
  · cases h2
def stepMK (P : Program) (E : EnvK) (ex : ExK α) (ro : Nat) (W R K G : List Nat) (S : List PV) (H : List Row) (o : Oper) (k : PV → List Row → Option α) : Option α :=
  match o.op with
  | .store T a x =>
    match ev S a with
    | .ptr i n q j => need (W.contains i && !R.contains i) (storeK P ro H T (.ptr i n q j) (ev S x) fun H' => k (.val undef) H')
    | _ => none
  | _ =>
    match wcallQ S o.op with
    | some (f, args) =>
      match wRows E.pure f args with
      | [] => stepMEK P E ex W R K S H o k
      | K =>
        need (K.all (fun x => W.contains x && !R.contains x) && args.all (argOk H.length) && decide (ro ≤ H.length) && rowsOk 0 (maskH K H))
          (callIK P E ex ro f args (maskH K H) fun p H' => need (plain p && rowsOk 0 (maskH K (H'.take H.length)) && shpsB K H H') (k p (backH K H H')))
    | none =>
      match growQ S o.op with
      | some (c, i, x, y) => need (W.contains i && !R.contains i && G.contains i && srcFree R y) (appendK P ro H c x y k)
      | none => stepMEK P E ex W R K S H o k
theorem stepMK_some {P : Program} {E : EnvK} {exK : ExK α} {ex : Ex} (hr : Ref exK ex) {ro : Nat} {W R K G : List Nat} {S : List PV} {H : List Row} {o : Oper} {k : PV → List Row → Option α} {r : α} (h : stepMK P E exK ro W R K G S H o k = some r) :
    ∃ p H', stepM P E.env ex ro W R K G S H o = some (p, H') ∧ k p H' = some r := by
  unfold stepMK at h
  unfold stepM
  split at h
  · rename_i hop
    simp only [hop]
    split at h
    · rename_i ha
      simp only [ha]
      obtain ⟨h1, h2⟩ := need_some h
      rw [if_pos h1]
      obtain ⟨H', h3, h4⟩ := storeK_some h2
      exact ⟨_, _, by rw [h3]; rfl, h4⟩
    · cases h
  · rename_i hno
    have key : (∃ p H', (match wcallQ S o.op with
        | some (f, args) =>
          match wRows E.pure f args with
          | [] => stepME P E.env ex W R K S H o
          | K =>
            if K.all (fun x => W.contains x && !R.contains x) && args.all (argOk H.length) && decide (ro ≤ H.length) && rowsOk 0 (maskH K H) then
              match callI P E.env ex ro f args (maskH K H) with
              | some (p, H') => if plain p && rowsOk 0 (maskH K (H'.take H.length)) && shpsB K H H' then some (p, backH K H H') else none
              | none => none
            else none
        | none =>
          match growQ S o.op with
          | some (c, i, x, y) => if W.contains i && !R.contains i && G.contains i && srcFree R y then appendQ P ro H c x y else none
          | none => stepME P E.env ex W R K S H o) = some (p, H') ∧ k p H' = some r) := by
      split at h
      · rename_i f args hw
        try rw [hw]
        try dsimp only
        split at h
        · rename_i hp
          try rw [hp]
          exact stepMEK_some hr h
        · rename_i hne
          obtain ⟨h1, h2⟩ := need_some h
          obtain ⟨p, H', h3, h4⟩ := callIK_some hr h2
          obtain ⟨h5, h6⟩ := need_some h4
          rw [if_pos h1, h3]
          dsimp only
          rw [if_pos h5]
          exact ⟨_, _, rfl, h6⟩
      · rename_i hw
        try rw [hw]
        try dsimp only
        split at h
        · rename_i hg
          try rw [hg]
          try dsimp only
          obtain ⟨h1, h2⟩ := need_some h
          rw [if_pos h1]
          exact appendK_some h2
        · rename_i hg
          try rw [hg]
          exact stepMEK_some hr h
    obtain ⟨p, H', h1, h2⟩ := key
    refine ⟨p, H', ?_, h2⟩
    split
    · rename_i hop; exact absurd hop (hno _ _ _)
    · exact h1
def stepsMK (P : Program) (E : EnvK) (ex : ExK α) (ro : Nat) (W G : List (List Nat)) (m : List Nat) (n j : Nat) : List PV → List Row → Oper → (PV → List Row → Option α) → Option α :=
  stepMK P E ex ro (W.getD j []) (confl W m n j) (confl G m n j) (G.getD j [])
def stepPK (P : Program) (E : EnvK) (ex : ExK α) (S : List PV) (H : List Row) (o : Oper) (k : PV → List Row → Option α) : Option α :=
  stepEK P E ex S H o fun p H1 => match Nat.beq H1.length H.length with | true => k p H | false => none
theorem stepPK_some {P : Program} {E : EnvK} {exK : ExK α} {ex : Ex} (hr : Ref exK ex) {S : List PV} {H : List Row} {o : Oper} {k : PV → List Row → Option α} {r : α} (h : stepPK P E exK S H o k = some r) :
    ∃ p H', stepP P E.env ex S H o = some (p, H') ∧ k p H' = some r := by
  obtain ⟨p, H1, h1, h2⟩ := stepEK_some hr h
  unfold stepP
  rw [h1]
  dsimp only
  split at h2
  · rename_i hb
    rw [if_pos (Nat.eq_of_beq_eq_true hb)]
    exact ⟨_, _, rfl, h2⟩
  · cases h2
def stepsPK (P : Program) (E : EnvK) (ex : ExK α) (ro pv j : Nat) (S : List PV) (H : List Row) (o : Oper) (k : PV → List Row → Option α) : Option α :=
  match Nat.beq j pv with
  | true => stepK P E ex ro S H o k
  | false => stepPK P E ex S H o k
theorem stepsPK_some {P : Program} {E : EnvK} {exK : ExK α} {ex : Ex} (hr : Ref exK ex) {ro pv j : Nat} {S : List PV} {H : List Row} {o : Oper} {k : PV → List Row → Option α} {r : α} (h : stepsPK P E exK ro pv j S H o k = some r) :
    ∃ p H', stepsP P E.env ex ro pv j S H o = some (p, H') ∧ k p H' = some r := by
  unfold stepsPK at h
  unfold stepsP
  split at h
  · rename_i hb
    rw [if_pos (Nat.eq_of_beq_eq_true hb)]
    exact stepK_some hr h
  · rename_i hb
    rw [if_neg (Nat.ne_of_beq_eq_false hb)]
    exact stepPK_some hr h
def opsJK (step : Nat → List PV → List Row → Oper → (PV → List Row → Option α) → Option α) (ops : Array Oper) : Nat → List Oper → List PV → List Row → (List PV → List Row → Option α) → Option α
  | _, [], S, H, k => k S H
  | j, o :: os, S, H, k => guardK ops S o fun w S1 =>
    match w with
    | true => step j S1 H o fun p H1 => opsJK step ops (j + 1) os (putS S1 o.dst p) H1 k
    | false => opsJK step ops (j + 1) os (putS S1 o.dst (.val undef)) H k
theorem opsJK_some {stK : Nat → List PV → List Row → Oper → (PV → List Row → Option α) → Option α} {st : Nat → List PV → List Row → Oper → Option (PV × List Row)}
    (hst : ∀ j S H o k r, stK j S H o k = some r → ∃ p H', st j S H o = some (p, H') ∧ k p H' = some r) {ops : Array Oper} :
    ∀ {os : List Oper} {j : Nat} {S : List PV} {H : List Row} {k : List PV → List Row → Option α} {r : α}, opsJK stK ops j os S H k = some r → ∃ S' H', opsJ st ops j os S H = some (S', H') ∧ k S' H' = some r
  | [], j, S, H, k, r, h => ⟨S, H, rfl, h⟩
  | o :: os, j, S, H, k, r, h => by
    obtain ⟨w, S1, h1, h2⟩ := guardK_some h
    simp only [opsJ, h1]
    cases w with
    | true =>
      obtain ⟨p, H1, h3, h4⟩ := hst _ _ _ _ _ _ h2
      simp only [h3]
      exact opsJK_some hst (os := os) h4
    | false => exact opsJK_some hst (os := os) h2

def iterK (body : List PV → List Row → (PX → List PV → List Row → Option α) → Option α) (live : Option (List Tmp)) (ro : Nat) : Nat → List PV → List Row → (PX → List PV → List Row → Option α) → Option α
  | 0, _, _, _ => none
  | m + 1, S, H, k =>
    body (keepS live S) H fun x S1 H1 =>
      match x with
      | .normal => bif mlts H.length (keepS live S1) && decide (H.length ≤ H1.length) && rowsOk H.length (H1.take H.length) && decide (ro ≤ H.length) then iterK body live ro m (trimS H.length (keepS live S1)) (H1.take H.length) k
        else iterK body live ro m (keepS live S1) H1 k
      | .exit i => k (.exit i) S1 H1
      | .ret => k .ret S1 H1
theorem iterK_some {bK : List PV → List Row → (PX → List PV → List Row → Option α) → Option α} {b : List PV → List Row → Option (PX × List PV × List Row)}
    (hb : ∀ S H k r, bK S H k = some r → ∃ x S' H', b S H = some (x, S', H') ∧ k x S' H' = some r) {live : Option (List Tmp)} {ro : Nat} :
    ∀ {m : Nat} {S : List PV} {H : List Row} {k : PX → List PV → List Row → Option α} {r : α}, iterK bK live ro m S H k = some r → ∃ x S' H', iterQ b live ro m S H = some (x, S', H') ∧ k x S' H' = some r
  | 0, _, _, _, _, h => by cases h
  | m + 1, S, H, k, r, h => by
    obtain ⟨x, S1, H1, h1, h2⟩ := hb _ _ _ _ h
    simp only [iterQ, h1]
    cases x with
    | normal =>
      dsimp only at h2 ⊢
      split
      · rename_i g1
        rw [g1] at h2
        exact iterK_some hb (m := m) h2
      · rename_i g1
        rw [Bool.not_eq_true] at g1
        rw [g1] at h2
        exact iterK_some hb (m := m) h2
    | exit i => exact ⟨_, _, _, rfl, h2⟩
    | ret => exact ⟨_, _, _, rfl, h2⟩

/-- What was asked is known from there on. -/
def setC (S : List PV) (c : Operand) (b : Bool) : List PV := match c with | .tmp d => S.set d (.val (.bool b)) | _ => S
theorem setC_same {S : List PV} {c : Operand} {b : Bool} (h : ev S c = .val (.bool b)) : setC S c b = S := by
  cases c with
  | tmp d =>
    show S.set d (.val (.bool b)) = S
    have h' : S.getD d (.val undef) = .val (.bool b) := h
    apply List.ext_getElem?
    intro i
    rw [List.getElem?_set]
    split
    · rename_i e; subst e
      split
      · rename_i hl
        rw [← h']
        simp [List.getD, List.getElem?_eq_getElem hl]
      · rename_i hl; exact (List.getElem?_eq_none (by omega)).symm
    · rfl
  | _ => rfl

def execK (P : Program) (E : EnvK) : Nat → ExK α
  | 0 => fun _ _ _ _ _ _ => none
  | n + 1 => fun ro f c S H k =>
    match c with
    | .skip => k .normal S H
    | .label _ => k .normal S H
    | .region _ ops draw =>
      match draw with
      | true =>
        match drawOk P ops.toList with
        | true =>
          match pivot ops.toList S with
          | some pv =>
            match pivotOk (masks ops.toList []) ops.size pv with
            | true => opsJK (stepsPK P E (execK P E n) ro pv) ops 0 ops.toList S H fun S' H' => k .normal S' H'
            | false => none
          | none =>
            match mixed (guessW E.pure S ops.toList H.length) with
            | true => opsJK (stepsMK P E (execK P E n) ro ((guessW E.pure S ops.toList H.length).map fun x => x.2.1) ((guessW E.pure S ops.toList H.length).map fun x => x.2.2) (masks ops.toList []) ops.size) ops 0 ops.toList S H fun S' H' => k .normal S' H'
            | false => opsK (stepEK P E (execK P E n)) ops ops.toList S H fun S' H' => k .normal S' H'
        | false => none
      | false => opsK (stepK P E (execK P E n) ro) ops ops.toList S H fun S' H' => k .normal S' H'
    | .seq a b => execK P E n ro f a S H fun x S1 H1 =>
      match x with
      | .normal => execK P E n ro f b S1 H1 k
      | .exit i => k (.exit i) S1 H1
      | .ret => k .ret S1 H1
    | .cond c x y =>
      match ev S c with
      | .val (.bool t) => bif t then execK P E n ro f x (setC S c true) H k else execK P E n ro f y (setC S c false) H k
      | _ => none
    | .block id b => execK P E n ro f b S H fun x S1 H1 =>
      match x with
      | .exit i => bif decide (i = id) then k .normal S1 H1 else k (.exit i) S1 H1
      | .normal => k .normal S1 H1
      | .ret => k .ret S1 H1
    | .loop b =>
      match nilsQ (E.nils f (rid b)) S H with
      | (S0, H0) =>
        match E.lo f ro (rid b) (keepS (E.live f (rid b)) S0) H0 with
        | some d => d.go fun r => k r.1 r.2.1 r.2.2
        | none => iterK (execK P E n ro f b) (E.live f (rid b)) ro n S0 H0 k
    | .scope b => execK P E n ro f b S H k
    | .exit id => k (.exit id) S H
    | .ret => k .ret S H
    | .rangeFunc g ps asg body =>
      match keepS (E.live f (rid asg)) S with
      | S0 =>
        match ev S0 g with
        | .fn (.func kf) first cap => callIK P E (execK P E n) ro kf (first ++ [.yld H.length] ++ cap) (H ++ [loopRow f S0 ps asg body]) fun _ H2 => overK S0 H.length H2 k
        | _ => none
    | _ => none

theorem execK_ref {P : Program} {E : EnvK} : ∀ n, Ref (α := α) (execK P E n) (exec P E.env n)
  | 0 => fun _ _ _ _ _ _ _ h => by cases h
  | n + 1 => fun ro f c S H k r h => by
    have ih := execK_ref (P := P) (E := E) n
    cases c <;> simp only [execK, reduceCtorEq] at h
    case skip => exact ⟨_, _, _, rfl, h⟩
    case label => exact ⟨_, _, _, rfl, h⟩
    case region id ops draw =>
      split at h
      · rename_i hdr
        split at h
        · rename_i hok
          split at h
          · rename_i pv hpn
            split at h
            · rename_i hpo
              obtain ⟨S', H', h1, h2⟩ := opsJK_some (stK := stepsPK P E (execK P E n) ro pv) (st := stepsP P E.env (exec P E.env n) ro pv) (fun j S1 H1 o k r h => stepsPK_some ih h) h
              exact ⟨_, _, _, by simp only [exec]; rw [if_pos trivial, if_pos hok]; simp only [hpn]; rw [if_pos hpo, h1]; rfl, h2⟩
            · cases h
          · rename_i hpn
            split at h
            · rename_i hm
              obtain ⟨S', H', h1, h2⟩ := opsJK_some (stK := stepsMK P E (execK P E n) ro ((guessW E.pure S ops.toList H.length).map (fun x : Bool × List Nat × List Nat => x.2.1)) ((guessW E.pure S ops.toList H.length).map (fun x : Bool × List Nat × List Nat => x.2.2)) (masks ops.toList []) ops.size) (st := stepsM P E.env (exec P E.env n) ro ((guessW E.env.pure S ops.toList H.length).map (fun x : Bool × List Nat × List Nat => x.2.1)) ((guessW E.env.pure S ops.toList H.length).map (fun x : Bool × List Nat × List Nat => x.2.2)) (masks ops.toList []) ops.size) (fun j S1 H1 o k r (h : stepMK P E (execK P E n) ro _ _ _ _ S1 H1 o k = some r) => stepMK_some ih h) h
              exact ⟨_, _, _, by simp only [exec]; rw [if_pos trivial, if_pos hok]; simp only [hpn]; rw [if_pos (show mixed (guessW E.env.pure S ops.toList H.length) = true from hm), h1]; rfl, h2⟩
            · rename_i hm
              obtain ⟨S', H', h1, h2⟩ := opsK_some (st := stepE P E.env (exec P E.env n)) (fun S H o k r h => stepEK_some ih h) h
              exact ⟨_, _, _, by simp only [exec]; rw [if_pos trivial, if_pos hok]; simp only [hpn]; rw [if_neg (show ¬ mixed (guessW E.env.pure S ops.toList H.length) = true from by rw [show mixed (guessW E.env.pure S ops.toList H.length) = false from hm]; simp), h1]; rfl, h2⟩
        · cases h
      · rename_i hdr
        obtain ⟨S', H', h1, h2⟩ := opsK_some (st := stepS P E.env (exec P E.env n) ro) (fun S H o k r h => stepK_some ih h) h
        exact ⟨_, _, _, by simp only [exec]; rw [if_neg (by simp), h1]; rfl, h2⟩
    case seq a b =>
      obtain ⟨x, S1, H1, h1, h2⟩ := ih _ _ _ _ _ _ _ h
      simp only [exec, h1]
      cases x with
      | normal => exact ih _ _ _ _ _ _ _ h2
      | exit i => exact ⟨_, _, _, rfl, h2⟩
      | ret => exact ⟨_, _, _, rfl, h2⟩
    case cond c x y =>
      split at h
      · rename_i t ht
        simp only [exec, ht]
        cases t
        · simp only [cond_false, setC_same ht] at h; exact ih _ _ _ _ _ _ _ h
        · simp only [cond_true, setC_same ht] at h; exact ih _ _ _ _ _ _ _ h
      · cases h
    case block id b =>
      obtain ⟨x, S1, H1, h1, h2⟩ := ih _ _ _ _ _ _ _ h
      simp only [exec, h1]
      cases x with
      | normal => exact ⟨_, _, _, rfl, h2⟩
      | ret => exact ⟨_, _, _, rfl, h2⟩
      | exit i =>
        dsimp only at h2 ⊢
        by_cases hi : i = id
        · rw [if_pos hi]; simp only [hi, decide_true, cond_true] at h2; exact ⟨_, _, _, rfl, h2⟩
        · rw [if_neg hi]; simp only [hi, decide_false, cond_false] at h2; exact ⟨_, _, _, rfl, h2⟩
    case loop b =>
      simp only [exec]
      show ∃ x S' H', (match (E.lo f ro (rid b) (keepS (E.live f (rid b)) (nilsQ (E.nils f (rid b)) S H).1) (nilsQ (E.nils f (rid b)) S H).2).bind DT.run with | some r => some r | none => iterQ (exec P E.env n ro f b) (E.live f (rid b)) ro n (nilsQ (E.nils f (rid b)) S H).1 (nilsQ (E.nils f (rid b)) S H).2) = some (x, S', H') ∧ _
      generalize nilsQ (E.nils f (rid b)) S H = SH at h ⊢
      obtain ⟨S0, H0⟩ := SH
      dsimp only at h ⊢
      split at h
      · rename_i d hd
        obtain ⟨a, h1, h2⟩ := DT.go_some h
        rw [hd]
        simp only [Option.bind_some, h1]
        exact ⟨_, _, _, rfl, h2⟩
      · rename_i hd
        rw [hd]
        exact iterK_some (fun S H k r h => ih _ _ _ _ _ _ _ h) h
    case scope b => exact ih _ _ _ _ _ _ _ h
    case exit id => exact ⟨_, _, _, rfl, h⟩
    case ret => exact ⟨_, _, _, rfl, h⟩
    case rangeFunc g ps asg body =>
      split at h
      · rename_i kf first cap hg
        simp only [exec]
        rw [show E.env.live = E.live from rfl, hg]
        obtain ⟨p, H2, h1, h2⟩ := callIK_some ih h
        simp only [h1]
        exact overK_some h2
      · cases h
end

/-- What a call by value comes to. -/
def runP (P : Program) (E : EnvK) (n : Nat) (f : FuncId) (args : List PV) : Option PV :=
  need (mlts 0 args) (callXK P (execK P E n) 0 f args [] fun p H' => frzK H' 0 p fun q => need (mlt 0 q) (some q))
/-- What a call comes to, on rows. -/
def runR (P : Program) (E : EnvK) (n : Nat) (ro : Nat) (f : FuncId) (args : List PV) (H : List Row) : Option (PV × List Row) :=
  callXK P (execK P E n) ro f args H fun p H' => some (p, H')
/-- What code comes to. -/
def runC (P : Program) (E : EnvK) (n : Nat) (ro : Nat) (f : FuncId) (c : Code) (S : List PV) (H : List Row) : Option (PX × List PV × List Row) :=
  execK P E n ro f c S H fun x S' H' => some (x, S', H')

theorem runC_sound {P : Program} {E : EnvK} (hE : EnvOK P E.env) {n ro : Nat} {f : FuncId} {c : Code} {S S' : List PV} {H H' : List Row} {x : PX} (h : runC P E n ro f c S H = some (x, S', H')) (hl : SubCode P f c) : WpTo P c ro S H x S' H' := by
  obtain ⟨x1, S1, H1, h1, h2⟩ := execK_ref n _ _ _ _ _ _ _ h
  cases h2
  exact exec_ok hE n _ _ _ _ _ _ _ _ h1 hl
theorem runR_sound {P : Program} {E : EnvK} (hE : EnvOK P E.env) {n ro : Nat} {f : FuncId} {args : List PV} {H H' : List Row} {p : PV} (h : runR P E n ro f args H = some (p, H')) : Enters P f ∧ RCall P ro f args H p H' := by
  obtain ⟨q, H1, h1, h2⟩ := callXK_some (execK_ref n) h
  cases h2
  refine ⟨?_, fun C hH hro hR Vs hv => ?_⟩
  · intro Vs w
    unfold callX at h1
    split at h1
    · rename_i fn hfn
      split at h1
      · rename_i b hb
        split at h1
        · cases h1
        · rename_i hn; simp [callFunc, hfn, hb]; simpa using hn
      · cases h1
    · cases h1
  · subst hH
    exact (callX_sound hE (exec_ok hE n) hR hro hv h1).2
theorem callX_enters {P : Program} {ex : Ex} {ro : Nat} {f : FuncId} {args : List PV} {H H' : List Row} {p : PV} (h1 : callX P ex ro f args H = some (p, H')) : Enters P f := by
  intro Vs w
  unfold callX at h1
  split at h1
  · rename_i fn hfn
    split at h1
    · rename_i b hb
      split at h1
      · cases h1
      · rename_i hn; simp [callFunc, hfn, hb]; simpa using hn
    · cases h1
  · cases h1
theorem runP_sound {P : Program} {E : EnvK} (hE : EnvOK P E.env) {n : Nat} {f : FuncId} {args : List PV} {p : PV} (h : runP P E n f args = some p) : Enters P f ∧ PCall P f args p := by
  obtain ⟨hm, h⟩ := need_some h
  obtain ⟨q, H2, hI, h2⟩ := callXK_some (execK_ref n) h
  obtain ⟨hq, h2⟩ := need_some (frzK_some h2)
  cases h2
  refine ⟨callX_enters hI, fun C hR Vs hv => ?_⟩
  have hRc : RH P (C.cut 0 True 0) := hR.cut (Nat.zero_le _) (Nat.le_refl _) (by simp [rowsOk])
  have hvc : Cs P (C.cut 0 True 0) args Vs := ⟨hv.1, fun j c v h1 h2 => (hv.2 j c v h1 h2).cut (Nat.zero_le _) (mlts_get hm h1)⟩
  have g2 := (callX_sound hE (exec_ok hE n) (C := C.cut 0 True 0) hRc rfl hvc hI).2
  refine g2.mono ?_
  rintro e w' ⟨V, C', rfl, rfl, hc⟩
  refine ⟨V, rfl, back_same hc.ext, ?_⟩
  have hH2 := hc.H
  subst hH2
  have h1 := hc.rv.frz (ro := C'.ro) hc.rh (Nat.zero_le _) hq
  have hx2 : Ext (C.cut 0 True 0) (C'.cut 0 False C'.ro) := hc.ext.cut (Nat.zero_le _) (Nat.zero_le _) (Nat.zero_le _)
  exact RV.back (Ci := C'.cut 0 False C'.ro) (Nat.zero_le _) hx2 h1 hq

/-! Environments, grown. -/
def nrm : PV → PV
  | .val (.agg a) => .agg (a.toList.map .val)
  | p => p
theorem RV.nrm {P : Program} {C : Ctx} {p : PV} {V : Value} (h : RV P C p V) : RV P C (nrm p) V := by
  unfold Hx.nrm
  split
  · cases h
    refine .agg (by simp) fun j c v h1 h2 => ?_
    simp only [List.getElem?_map, Option.map_eq_some_iff] at h1
    obtain ⟨x, hx, rfl⟩ := h1
    have : x = v := Option.some.inj (hx.symm.trans (by rw [Array.getElem?_toList]; exact h2))
    subst this
    exact .val
  · exact h
theorem Cs.nrm {P : Program} {C : Ctx} {ps : List PV} {Vs : Array Value} (h : Cs P C ps Vs) : Cs P C (ps.map Hx.nrm) Vs := by
  refine ⟨by simpa using h.1, fun j c v h1 h2 => ?_⟩
  simp only [List.getElem?_map, Option.map_eq_some_iff] at h1
  obtain ⟨x, hx, rfl⟩ := h1
  exact (h.2 j x v hx h2).nrm

def EnvK.addO (E : EnvK) (k : FuncId) (c : List PV → Option PV) : EnvK := { E with ora := fun f a => if f = k then c (a.map nrm) else E.ora f a }
def EnvK.addC (E : EnvK) (k : FuncId) (c : Nat → List PV → List Row → Option (DT (PV × List Row))) : EnvK := { E with cal := fun ro f a H => if f = k then c ro a H else E.cal ro f a H }
def EnvK.addL (E : EnvK) (k : FuncId) (i : Nat) (l : List Tmp) (c : Nat → List PV → List Row → Option (DT (PX × List PV × List Row))) : EnvK :=
  { E with live := fun f j => if f = k then (if j = i then some l else E.live f j) else E.live f j
           lo := fun f ro j S H => if f = k then (if j = i then c ro S H else E.lo f ro j S H) else E.lo f ro j S H }
def EnvK.addN (E : EnvK) (k : FuncId) (i : Nat) (l : List (Tmp × TypeId × Nat)) : EnvK := { E with nils := fun f j => if f = k then (if j = i then l else E.nils f j) else E.nils f j }
/-- These functions only read what they are given (a hint: nothing rests on it). -/
def EnvK.addQ (E : EnvK) (k : FuncId) : EnvK := { E with pure := fun f => if f = k then true else E.pure f }
def EnvK.addK (E : EnvK) (k : FuncId) : EnvK := { E with keep := fun f => if f = k then true else E.keep f }

theorem LoH.mono {P : Program} {E E' : Env} {f : FuncId} (h : ∀ ro i S H x S' H', E'.lo f ro i S H = some (x, S', H') → E.lo f ro i S H = some (x, S', H')) : ∀ {c : Code}, LoH P E f c → LoH P E' f c
  | .seq a b, hc => ⟨LoH.mono h (c := a) hc.1, LoH.mono h (c := b) hc.2⟩
  | .cond _ x y, hc => ⟨LoH.mono h (c := x) hc.1, LoH.mono h (c := y) hc.2⟩
  | .block _ b, hc => LoH.mono h (c := b) hc
  | .scope b, hc => LoH.mono h (c := b) hc
  | .loop b, hc => ⟨fun ro S H x S' H' g => hc.1 ro S H x S' H' (h _ _ _ _ _ _ _ g), LoH.mono h (c := b) hc.2⟩
  | .rangeFunc _ _ a b, hc => ⟨LoH.mono h (c := a) hc.1, LoH.mono h (c := b) hc.2⟩
  | .skip, _ | .label _, _ | .region _ _ _, _ | .exit _, _ | .ret, _ | .goto _, _ | .refuse _, _ => trivial

theorem envOK_zero {P : Program} : EnvOK P ({} : EnvK).env where
  ent := fun _ _ _ h => by cases h
  cal := fun _ _ _ _ _ _ h => by cases h
  ora := fun _ _ _ h => by cases h
  lo := fun k fn b _ _ => by
    have : ∀ c : Code, LoH P ({} : EnvK).env k c := by
      intro c
      induction c with
      | seq a b iha ihb => exact ⟨iha, ihb⟩
      | cond c x y ihx ihy => exact ⟨ihx, ihy⟩
      | block i b ih => exact ih
      | scope b ih => exact ih
      | loop b ih => exact ⟨fun _ _ _ _ _ _ h => (by cases h), ih⟩
      | rangeFunc g ps a b iha ihb => exact ⟨iha, ihb⟩
      | _ => trivial
    exact this b
theorem ora_addO {E : EnvK} {k : FuncId} {c : List PV → Option PV} {f : FuncId} {a : List PV} {r : PV} (h : (E.addO k c).env.ora f a = some r) : (f = k ∧ c (a.map nrm) = some r) ∨ E.env.ora f a = some r := by
  change (match E.orD f a with | some d => d.run | none => if f = k then c (a.map nrm) else E.ora f a) = some r at h
  split at h
  · rename_i d hd; exact .inr (ora_orD hd h)
  · rename_i hd
    split at h
    · rename_i e; exact .inl ⟨e, h⟩
    · exact .inr (ora_of hd h)
theorem EnvOK.addO {P : Program} {E : EnvK} (hE : EnvOK P E.env) {k : FuncId} {c : List PV → Option PV} (hc : ∀ args r, c args = some r → Enters P k ∧ PCall P k args r) : EnvOK P (E.addO k c).env where
  ent := fun f a r h => by
    rcases ora_addO h with ⟨e, g⟩ | h
    · subst e; exact (hc _ _ g).1
    · exact hE.ent f a r h
  cal := hE.cal
  ora := fun f a r h => by
    rcases ora_addO h with ⟨e, g⟩ | h
    · subst e
      exact fun C hR Vs hv => (hc _ _ g).2 C hR Vs hv.nrm
    · exact hE.ora f a r h
  lo := fun f fn b h1 h2 => LoH.mono (E := E.env) (E' := (E.addO k c).env) (fun _ _ _ _ _ _ _ h => h) (hE.lo f fn b h1 h2)
/-- Contracts by value, with conditions; slices that the caller owns are lists for them. -/
def EnvK.addF (E : EnvK) (k : FuncId) (c : List PV → Option (DT PV)) : EnvK := { E with orD := fun f a => if f = k then (match c (a.map nrm) with | some d => some d | none => E.orD f a) else E.orD f a }
theorem ora_addF {E : EnvK} {k : FuncId} {c : List PV → Option (DT PV)} {f : FuncId} {a : List PV} {r : PV} (h : (E.addF k c).env.ora f a = some r) : (f = k ∧ ∃ d, c (a.map nrm) = some d ∧ d.run = some r) ∨ E.env.ora f a = some r := by
  change (match (if f = k then (match c (a.map nrm) with | some d => some d | none => E.orD f a) else E.orD f a) with | some d => d.run | none => E.ora f a) = some r at h
  by_cases e : f = k
  · rw [if_pos e] at h
    cases hc : c (a.map nrm) with
    | some d => rw [hc] at h; exact .inl ⟨e, d, rfl, h⟩
    | none => rw [hc] at h; exact .inr h
  · rw [if_neg e] at h; exact .inr h
theorem EnvOK.addF {P : Program} {E : EnvK} (hE : EnvOK P E.env) {k : FuncId} {c : List PV → Option (DT PV)} (hent : Enters P k) (hc : ∀ args d r, c args = some d → d.run = some r → PCall P k args r) : EnvOK P (E.addF k c).env where
  ent := fun f a r h => by
    rcases ora_addF h with ⟨e, _⟩ | h
    · subst e; exact hent
    · exact hE.ent f a r h
  cal := hE.cal
  ora := fun f a r h => by
    rcases ora_addF h with ⟨e, d, h1, h2⟩ | h
    · subst e
      exact fun C hR Vs hv => hc _ _ _ h1 h2 C hR Vs hv.nrm
    · exact hE.ora f a r h
  lo := fun f fn b h1 h2 => LoH.mono (E := E.env) (E' := (E.addF k c).env) (fun _ _ _ _ _ _ _ h => h) (hE.lo f fn b h1 h2)
theorem EnvOK.addC {P : Program} {E : EnvK} (hE : EnvOK P E.env) {k : FuncId} {c : Nat → List PV → List Row → Option (DT (PV × List Row))} (hent : Enters P k)
    (hc : ∀ ro args H d p H', c ro args H = some d → d.run = some (p, H') → RCall P ro k args H p H') : EnvOK P (E.addC k c).env where
  ent := hE.ent
  cal := fun ro f a H p H' h => by
    change (if f = k then c ro a H else E.cal ro f a H).bind DT.run = some (p, H') at h
    split at h
    · rename_i e; subst e
      obtain ⟨d, h1, h2⟩ := Option.bind_eq_some_iff.1 h
      exact ⟨hent, hc _ _ _ _ _ _ h1 h2⟩
    · exact hE.cal ro f a H p H' h
  ora := hE.ora
  lo := fun f fn b h1 h2 => LoH.mono (E := E.env) (E' := (E.addC k c).env) (fun _ _ _ _ _ _ _ h => h) (hE.lo f fn b h1 h2)
/-- The loops of some code. -/
def loops : Code → List Code
  | .seq a b => loops a ++ loops b
  | .cond _ x y => loops x ++ loops y
  | .block _ b => loops b
  | .scope b => loops b
  | .loop b => b :: loops b
  | .rangeFunc _ _ a b => loops a ++ loops b
  | _ => []
theorem LoH.of {P : Program} {E : Env} {f : FuncId} : ∀ {c : Code}, (∀ b, b ∈ loops c → SubC (.loop b) c → ∀ ro S H x S' H', E.lo f ro (rid b) S H = some (x, S', H') → WpTo P (.loop b) ro S H x S' H') → LoH P E f c
  | .seq a b, h => ⟨LoH.of (c := a) fun b hb hs => h b (by simp [loops, hb]) (.seq1 hs), LoH.of (c := b) fun b hb hs => h b (by simp [loops, hb]) (.seq2 hs)⟩
  | .cond _ a b, h => ⟨LoH.of (c := a) fun b hb hs => h b (by simp [loops, hb]) (.cond1 hs), LoH.of (c := b) fun b hb hs => h b (by simp [loops, hb]) (.cond2 hs)⟩
  | .block _ b, h => LoH.of (c := b) fun b hb hs => h b (by simpa [loops] using hb) (.block hs)
  | .scope b, h => LoH.of (c := b) fun b hb hs => h b (by simpa [loops] using hb) (.scope hs)
  | .loop b, h => ⟨h b (by simp [loops]) .here, LoH.of (c := b) fun b hb hs => h b (by simp [loops, hb]) (.loop hs)⟩
  | .rangeFunc _ _ a b, h => ⟨LoH.of (c := a) fun b hb hs => h b (by simp [loops, hb]) (.range1 hs), LoH.of (c := b) fun b hb hs => h b (by simp [loops, hb]) (.range2 hs)⟩
  | .skip, _ | .label _, _ | .region _ _ _, _ | .exit _, _ | .ret, _ | .goto _, _ | .refuse _, _ => trivial
/-- What a loop comes to. -/
theorem EnvOK.addL {P : Program} {E : EnvK} (hE : EnvOK P E.env) {k i : Nat} {l : List Tmp} {c : Nat → List PV → List Row → Option (DT (PX × List PV × List Row))} {fn : Func} {body b0 : Code} (hf : P.funcs[k]? = some fn) (hb : fn.body = some body)
    (h0 : (loops body).filter (fun b => rid b == i) = [b0]) (hc : SubCode P k (.loop b0) → ∀ ro S H d x S' H', c ro S H = some d → d.run = some (x, S', H') → WpTo P (.loop b0) ro S H x S' H') : EnvOK P (E.addL k i l c).env where
  ent := hE.ent
  cal := hE.cal
  ora := hE.ora
  lo := fun f fn' b' h1 h2 => by
    refine LoH.of fun b hm hs ro S H x S' H' g => ?_
    change ((if f = k then (if rid b = i then c ro S H else E.lo f ro (rid b) S H) else E.lo f ro (rid b) S H)).bind DT.run = some (x, S', H') at g
    have old : (E.lo f ro (rid b) S H).bind DT.run = some (x, S', H') → WpTo P (.loop b) ro S H x S' H' := fun g => (LoH.sub (P := P) (E := E.env) hs (hE.lo f fn' b' h1 h2)).1 ro S H x S' H' g
    split at g
    · rename_i e
      subst e
      split at g
      · rename_i e2
        rw [hf] at h1; cases h1
        rw [hb] at h2; cases h2
        have hb0 : b = b0 := by
          have : b ∈ (loops body).filter (fun b => rid b == i) := List.mem_filter.2 ⟨hm, by simp [e2]⟩
          rw [h0] at this
          simpa using this
        subst hb0
        obtain ⟨d, g1, g2⟩ := Option.bind_eq_some_iff.1 g
        exact hc ⟨fn, body, hf, hb, hs⟩ ro S H d x S' H' g1 g2
      · exact old g
    · exact old g
theorem EnvOK.addN {P : Program} {E : EnvK} (hE : EnvOK P E.env) (k : FuncId) (i : Nat) (l : List (Tmp × TypeId × Nat)) : EnvOK P (E.addN k i l).env where
  ent := hE.ent
  cal := hE.cal
  ora := hE.ora
  lo := fun f fn b h1 h2 => LoH.mono (E := E.env) (E' := (E.addN k i l).env) (fun _ _ _ _ _ _ _ h => h) (hE.lo f fn b h1 h2)
theorem EnvOK.addQ {P : Program} {E : EnvK} (hE : EnvOK P E.env) (k : FuncId) : EnvOK P (E.addQ k).env where
  ent := hE.ent
  cal := hE.cal
  ora := hE.ora
  lo := fun f fn b h1 h2 => LoH.mono (E := E.env) (E' := (E.addQ k).env) (fun _ _ _ _ _ _ _ h => h) (hE.lo f fn b h1 h2)
theorem EnvOK.addK {P : Program} {E : EnvK} (hE : EnvOK P E.env) (k : FuncId) : EnvOK P (E.addK k).env where
  ent := hE.ent
  cal := hE.cal
  ora := hE.ora
  lo := fun f fn b h1 h2 => LoH.mono (E := E.env) (E' := (E.addK k).env) (fun _ _ _ _ _ _ _ h => h) (hE.lo f fn b h1 h2)
end Go.Hx
