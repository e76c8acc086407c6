/- Hx: regions: in the order of the text, and in whatever order the draw gives. -/
import Derived.Test.YtadcoepikgjgmaaHxSound
import Derived.LoopN
import Derived.Scope
import Derived.RangeFuncIn
namespace Go.Hx

theorem guardQ_sound {P : Program} {C : Ctx} {ops : Array Oper} {S S1 : List PV} {o : Oper} {b : Bool} {a : Act} (hs : RSl P C S a.tmps) (h : guardQ ops S o = some (b, S1)) :
    RSl P C S1 a.tmps ∧ Region.wanted o (yielded ops a.tmps) = b := by
  unfold guardQ at h
  unfold Region.wanted
  split at h
  · rename_i hg; cases h; rw [hg]; exact ⟨hs, rfl⟩
  · rename_i j want hg
    rw [hg]
    simp only
    split at h
    · rename_i hd
      cases h
      refine ⟨hs, ?_⟩
      simp [yielded, hd]
    · rename_i d hd
      have hy : yielded ops a.tmps j = match a.tmps[d]? with | some (.bool b) => some b | _ => none := by simp [yielded, hd]; rfl
      split at h
      · rename_i hS
        cases h
        have hlt : S.length ≤ d := by
          rcases Nat.lt_or_ge d S.length with h1 | h1
          · rw [List.getElem?_eq_getElem h1] at hS; cases hS
          · exact h1
        have : a.tmps[d]? = none := Array.getElem?_eq_none (by rw [hs.1]; exact hlt)
        refine ⟨hs, ?_⟩
        rw [hy, this]
        rfl
      · rename_i t hS
        have hlt : d < a.tmps.size := by rw [hs.1]; exact (List.getElem?_eq_some_iff.1 hS).1
        have h2 : a.tmps[d]? = some a.tmps[d] := Array.getElem?_eq_getElem hlt
        have hv := hs.2 d _ _ hS h2
        generalize a.tmps[d] = V at h2 hv
        cases hv
        have key : ∀ u, t = u → RSl P C (S.set d (.val (.bool u))) a.tmps := by
          intro u hu
          subst hu
          refine ⟨by rw [List.length_set]; exact hs.1, fun i p v g1 g2 => ?_⟩
          rw [List.getElem?_set] at g1
          split at g1
          · rename_i e
            subst e
            split at g1
            · cases g1
              rw [h2] at g2
              cases g2
              exact .val
            · cases g1
          · exact hs.2 i p v g1 g2
        cases t with
        | true =>
          simp only at h
          cases h
          refine ⟨key true rfl, ?_⟩
          rw [hy, h2]
          cases b <;> rfl
        | false =>
          simp only at h
          cases h
          refine ⟨key false rfl, ?_⟩
          rw [hy, h2]
          cases want <;> rfl
      · rename_i v hnb hS
        cases h
        have hlt : d < a.tmps.size := by rw [hs.1]; exact (List.getElem?_eq_some_iff.1 hS).1
        have h2 : a.tmps[d]? = some a.tmps[d] := Array.getElem?_eq_getElem hlt
        have hv := hs.2 d _ _ hS h2
        generalize a.tmps[d] = V at h2 hv
        cases hv
        refine ⟨hs, ?_⟩
        rw [hy, h2]
        split
        · rename_i b' e; cases e; exact absurd rfl (hnb b')
        · rfl
      · cases h

theorem putS_eq (S : List PV) (d : Option Tmp) (p : PV) : putS S d p = (match d with | some d => S.set d p | none => S) := rfl

/-- A region in the order of the text. -/
theorem opsQ_sound {r : Option Nat} {P : Program} {E : Env} (hE : EnvOK P E) {ex : Ex} (hX : ExSound P E ex) {ro : Nat} {ops : Array Oper} : ∀ {l : List Oper} {S S' : List PV} {H' : List Row} {C : Ctx} {a : Act},
    opsQ (stepS P E ex ro) ops l S C.H = some (S', H') → C.ro = ro → RH P C → RSl P C S a.tmps → ∀ Q : Exit → Act → World → Prop,
    (∀ a' C', a'.defers = a.defers → C'.H = H' → Ext C C' → RH P C' → RSl P C' S' a'.tmps → Q .normal a' C'.w) → wpListIn (Fr r) 0 P ops Q l a C.w
  | [], S, S', H', C, a, h, hro, hR, hs, Q, hQ => by
    simp only [opsQ] at h
    cases h
    exact wpListIn_nil (hQ a C rfl rfl (.refl C) hR hs)
  | o :: os, S, S', H', C, a, h, hro, hR, hs, Q, hQ => by
    simp only [opsQ] at h
    split at h
    · rename_i S1 hg
      obtain ⟨hs1, hw⟩ := guardQ_sound hs hg
      split at h
      · rename_i p H1 hstep
        refine wpListIn_step fun K hK => ?_
        rw [hw, if_pos rfl]
        refine stepS_sound hE hX hR hro hs1 hstep fun v C' hc => hK _ _ ?_
        have hH1 := hc.H
        subst hH1
        refine opsQ_sound hE hX h (by rw [hc.ext.ro]; exact hro) hc.rh ((hs1.mono hc.ext).put hc.rv) Q fun a' C2 hd hH2 hx hR2 hs2 => ?_
        exact hQ a' C2 (by rw [hd]; cases o.dst <;> rfl) hH2 (hc.ext.trans hx) hR2 hs2
      · cases h
    · rename_i S1 hg
      obtain ⟨hs1, hw⟩ := guardQ_sound hs hg
      refine wpListIn_step fun K hK => ?_
      rw [hw, if_neg (by simp)]
      refine ⟨fun _ _ => trivial, hK _ _ ?_⟩
      refine opsQ_sound hE hX h hro hR (hs1.put (v := undef) .val) Q fun a' C2 hd hH2 hx hR2 hs2 => ?_
      exact hQ a' C2 (by rw [hd]; cases o.dst <;> rfl) hH2 hx hR2 hs2
    · cases h

theorem region_sound {P : Program} {E : Env} (hE : EnvOK P E) {ex : Ex} (hX : ExSound P E ex) {ro id : Nat} {ops : Array Oper} {S S' : List PV} {H H' : List Row} (h : opsQ (stepS P E ex ro) ops ops.toList S H = some (S', H')) :
    WpTo P (.region id ops false) ro S H .normal S' H' := by
  intro r C a hH hro hR hs hro2 Q hQ
  subst hH
  exact wpIn_region_list (opsQ_sound hE hX h hro hR hs Q fun a' C' hd => hQ a' C' (.of_eq hd))

theorem keepS_sound {P : Program} {C : Ctx} {S : List PV} {t : Array Value} (l : Option (List Tmp)) (h : RSl P C S t) : RSl P C (keepS l S) t := by
  cases l with
  | none => exact h
  | some l =>
    refine ⟨by simp [keepS]; exact h.1, fun i p v h1 h2 => ?_⟩
    simp only [keepS, List.getElem?_map, Option.map_eq_some_iff] at h1
    obtain ⟨⟨q, j⟩, hq, rfl⟩ := h1
    rw [List.getElem?_zipIdx] at hq
    obtain ⟨q', hq', he⟩ := Option.map_eq_some_iff.1 hq
    cases he
    split
    · exact h.2 i _ v hq' h2
    · exact .any
theorem trimS_sound {P : Program} {C : Ctx} {S : List PV} {t : Array Value} {h ro : Nat} (hh : h ≤ C.H.length) (hs : RSl P C S t) : RSl P (C.cut h False ro) (trimS h S) t := by
  refine ⟨by simp [trimS]; exact hs.1, fun i p v h1 h2 => ?_⟩
  simp only [trimS, List.getElem?_map, Option.map_eq_some_iff] at h1
  obtain ⟨q, hq, rfl⟩ := h1
  split
  · rename_i hm; exact (hs.2 i q v hq h2).cut hh hm
  · exact .any

theorem iterQ_sound {r : Option Nat} {P : Program} {b : Code} {live : Option (List Tmp)} {ro : Nat} {body : List PV → List Row → Option (PX × List PV × List Row)} (hb : ∀ S H x S' H', body S H = some (x, S', H') → WpTo P b ro S H x S' H') :
    ∀ (m : Nat) {S : List PV} {H : List Row} {x : PX} {S' : List PV} {H' : List Row}, iterQ body live ro m S H = some (x, S', H') → ∀ (C : Ctx) (a : Act), C.H = H → C.ro = ro → RH P C → RSl P C S a.tmps → RoundOK r C.w → ∀ Q : Exit → Act → World → Prop,
      (∀ (a' : Act) (C' : Ctx), Dfs C.w a C'.w a' → C'.H = H' → Ext C C' → RH P C' → RSl P C' S' a'.tmps → Q (XOut x) a' C'.w) → Code.roundsIn (Fr r) 0 P b Q m a C.w
  | 0, S, H, x, S', H', h => by simp [iterQ] at h
  | m + 1, S, H, x, S', H', h => by
    intro C a hH hro hR hs hro2 Q hQ
    rw [roundsIn_succ]
    simp only [iterQ] at h
    split at h
    · rename_i S1 H1 hb1
      split at h
      · rename_i hc
        simp only [Bool.and_eq_true, decide_eq_true_eq] at hc
        obtain ⟨⟨⟨_, hle⟩, hok⟩, hroH⟩ := hc
        refine hb _ _ _ _ _ hb1 r C a hH hro hR (keepS_sound live hs) hro2 _ fun a' C' hd hH' hx hR' hs' => ?_
        show Code.roundsIn (Fr r) 0 P b Q m a' C'.w
        subst hH
        subst hH'
        have hRt : RH P (C'.cut C.H.length False C'.ro) := hR'.cut hle (by rw [hx.ro]; exact hR.ro) hok
        have hxt : Ext C (C'.cut C.H.length False C'.ro) := hx.cut (Nat.le_refl _) hle hR.ro
        have := iterQ_sound (r := r) hb m h (C'.cut C.H.length False C'.ro) a' rfl (by show C'.ro = ro; rw [hx.ro]; exact hro) hRt (trimS_sound hle (keepS_sound live hs')) (hro2.mono hxt) Q fun a2 C2 hd2 hH2 hx2 hR2 hs2 => hQ a2 C2 (Dfs.trans (C := C'.cut C.H.length False C'.ro) hd hx.size hRt hx2 hd2) hH2 (hxt.trans hx2) hR2 hs2
        exact this
      · refine hb _ _ _ _ _ hb1 r C a hH hro hR (keepS_sound live hs) hro2 _ fun a' C' hd hH' hx hR' hs' => ?_
        show Code.roundsIn (Fr r) 0 P b Q m a' C'.w
        exact iterQ_sound hb m h C' a' hH' (by rw [hx.ro]; exact hro) hR' (keepS_sound live hs') (hro2.mono hx) Q fun a2 C2 hd2 hH2 hx2 hR2 hs2 => hQ a2 C2 (hd.trans hx.size hR' hx2 hd2) hH2 (hx.trans hx2) hR2 hs2
    · rename_i rr hne
      have hx : x ≠ .normal := fun e => by subst e; exact hne _ _ h
      refine hb _ _ _ _ _ h r C a hH hro hR (keepS_sound live hs) hro2 _ fun a' C' hd hH' hxt hR' hs' => ?_
      have hq := hQ a' C' hd hH' hxt hR' hs'
      cases x with
      | normal => exact absurd rfl hx
      | exit id => exact hq
      | ret => exact hq

theorem WpTo.mono {P : Program} {c : Code} {Q Q' : Exit → Act → World → Prop} {a : Act} {w : World} (h : c.wp P Q a w) (hq : ∀ e a w, Q e a w → Q' e a w) : c.wp P Q' a w := Go.wp_mono h hq

theorem stepR_scope {P : Program} {b : Frame} {a : Act} {k : List Item} {cs : List Frame} {w : World} {c : Code} : step P (lone (b.atR a (.code (.scope c) :: k)) cs w) = .next (lone (b.atR a (.code c :: .inScope c :: k)) cs w) :=
  step_lone_go (by simp [stepG, stepG.exec, Frame.atR])
theorem stepR_inScope {P : Program} {b : Frame} {a : Act} {k : List Item} {cs : List Frame} {w : World} {c : Code} : step P (lone (b.atR a (.inScope c :: k)) cs w) = .next (lone (b.atR a k) cs w) :=
  step_lone_go (by simp [stepG, stepG.exec, Frame.atR])
theorem wpIn_scope_straight {r : Option Nat} {P : Program} {Q : Exit → Act → World → Prop} {a : Act} {w : World} {c : Code} (h : c.wpIn (Fr r) 0 P (Exit.noGoto Q) a w) : (Code.scope c).wpIn (Fr r) 0 P Q a w := by
  intro b k cs hro hb hr
  have h0 : (lone (b.atR a (.code (.scope c) :: k)) cs w).fenced P (Fr r) := fenced_calm hb hr rfl
  obtain ⟨e, a₁, w₁, hq, harr⟩ := h b (.inScope c :: k) cs hro hb hr
  cases e with
  | normal => exact ⟨.normal, a₁, w₁, hq, .head h0 stepR_scope (StepsIn.trans harr (.one (fenced_calm hb hr rfl) stepR_inScope))⟩
  | exit id =>
    refine ⟨.exit id, a₁, w₁, hq, fun k' hk => .head h0 stepR_scope (harr.1 k' (by simp [exitTo, hk])), fun h1 h2 => ?_⟩
    obtain ⟨k₁, g1, g2⟩ := harr.2 h1 (by simp [exitTo, h2])
    exact ⟨k₁, g1, .head h0 stepR_scope g2⟩
  | goto l => exact hq.elim
  | ret => exact ⟨_, a₁, w₁, hq, .of_steps (.one h0 stepR_scope) harr⟩
  | panic ch => exact ⟨_, a₁, w₁, hq, .of_steps (.one h0 stepR_scope) harr⟩
  | outgrown => exact ⟨_, a₁, w₁, hq, .of_steps (.one h0 stepR_scope) harr⟩

/-- A range over a function. -/
theorem range_sound {P : Program} {E : Env} (hE : EnvOK P E) {ex : Ex} (hX : ExSound P E ex) {ro : Nat} {f : FuncId} {g : Operand} {ps : Array Tmp} {asg body : Code} (hl : SubCode P f (.rangeFunc g ps asg body)) {S S' : List PV} {H H' : List Row} {x : PX}
    (h : (match ev S g with
      | .fn (.func k) first cap =>
        match callI P E ex ro k (first ++ [.yld H.length] ++ cap) (H ++ [loopRow f S ps asg body]) with
        | some (_, H2) => overQ S H.length H2
        | none => none
      | _ => none) = some (x, S', H')) : WpTo P (.rangeFunc g ps asg body) ro S H x S' H' := by
  intro r C a hH hro hR hs hro2 Q hQ
  subst hH
  split at h
  case h_2 => cases h
  rename_i k first cap hg
  split at h
  case h_2 => cases h
  rename_i p H2 hcall
  have hgv := hs.ev g
  rw [hg] at hgv
  generalize hG : a.eval g = G at hgv
  cases hgv with
  | @fn _ _ _ F K q1 q2 q3 q4 =>
  refine wpIn_rangeFunc fun fn _ => ?_
  -- the record is laid
  have lay : ∃ (l : Nat) (mark : List Deferred) (C1 : Ctx), (Instr.enterLoop fn a.tmps ps asg body (Fr r).round).run P C.w = .ok (l, mark) C1.w ∧ C1.H = C.H ++ [loopRow f S ps asg body] ∧ Ext C C1 ∧ RH P C1 ∧ C1.ρ C.H.length = some l ∧
      Dfs C.w a C1.w { a with defers := mark ++ a.defers } := by
    cases r with
    | none =>
      have hsm : Same C.w (C.w.alloc (.deferred (some []))) := ⟨rfl, rfl, rfl, by simp, fun b hb => Go.heap_alloc_old C.w _ hb⟩
      have hRa := hsm.rh hR
      obtain ⟨hx, hRb⟩ := bindL_rows (C := C.at (C.w.alloc (.deferred (some [])))) hRa (f := f) (S := S) (ps := ps) (asg := asg) (body := body)
        (rec := { state := .ready, pending := none, fn, tmps := a.tmps, params := ps, assign := asg, body, defers := C.w.heap.size }) rfl rfl rfl (hs.mono hsm.ext) rfl rfl (hl.sub (.range1 .here)) (hl.sub (.range2 .here))
      refine ⟨C.w.heap.size + 1, [mk C.w.heap.size], _, run_enterLoop_outer fn a.tmps ps asg body, rfl, hsm.ext.trans hx, hRb, ?_, [C.w.heap.size], by simp, rfl, fun q hq => ?_⟩
      · simp [Ctx.bind, Ctx.more, Ctx.at]
      · simp only [List.mem_singleton] at hq
        subst hq
        refine ⟨Nat.le_refl _, ?_⟩
        have h0 := World.alloc_heap_new C.w (.deferred (some []))
        have h1 := Go.heap_alloc_old (C.w.alloc (.deferred (some []))) (Obj.loop { state := .ready, pending := none, fn, tmps := a.tmps, params := ps, assign := asg, body, defers := C.w.heap.size }) (Dfs.lt h0)
        exact h1.trans h0
    | some l0 =>
      obtain ⟨rec0, hrec0⟩ := hro2 l0 rfl
      obtain ⟨hx, hRb⟩ := bindL_rows (C := C) hR (f := f) (S := S) (ps := ps) (asg := asg) (body := body)
        (rec := { state := .ready, pending := none, fn, tmps := a.tmps, params := ps, assign := asg, body, defers := rec0.defers }) rfl rfl rfl hs rfl rfl (hl.sub (.range1 .here)) (hl.sub (.range2 .here))
      refine ⟨C.w.heap.size, [], _, ?_, rfl, hx, hRb, ?_, .of_eq rfl⟩
      · show (Instr.enterLoop fn a.tmps ps asg body (some l0)).run P C.w = _
        unfold Instr.enterLoop
        simp only [Sem.run_bind, run_getLoop hrec0, Result.andThen, Sem.run_pure, run_newObj_alloc]
        rfl
      · simp [Ctx.bind, Ctx.more]
  obtain ⟨l, mark, C1, hlay, hH1, hx1, hR1, hρ1, hd1⟩ := lay
  have hrow1 : C1.H[C.H.length]? = some (loopRow f S ps asg body) := by rw [hH1]; simp
  have hargs : Cs P C1 (first ++ [.yld C.H.length] ++ cap) (F ++ #[.func (.yield l) #[] #[]] ++ K) := by
    have app : ∀ {l1 l2 : List PV} {a1 a2 : Array Value}, Cs P C1 l1 a1 → Cs P C1 l2 a2 → Cs P C1 (l1 ++ l2) (a1 ++ a2) := by
      intro l1 l2 a1 a2 h1 h2
      refine ⟨by simp [h1.1, h2.1], fun j c v g1 g2 => ?_⟩
      rw [List.getElem?_append] at g1
      rw [Array.getElem?_append, h1.1] at g2
      split at g1
      · rename_i hj; rw [if_pos hj] at g2; exact h1.2 j c v g1 g2
      · rename_i hj; rw [if_neg hj] at g2; exact h2.2 _ c v g1 g2
    refine app (app ⟨q1, fun j c v g1 g2 => (q3 j c v g1 g2).mono hx1⟩ ⟨rfl, fun j c v g1 g2 => ?_⟩) ⟨q2, fun j c v g1 g2 => (q4 j c v g1 g2).mono hx1⟩
    cases j with
    | zero =>
      simp at g1 g2
      subst g1; subst g2
      exact .yld (List.getElem?_eq_some_iff.1 hrow1).1 ⟨_, _, hrow1, rfl, rfl⟩ hρ1
    | succ j => simp at g1
  obtain ⟨hent, hcl⟩ := callI_sound (ro := ro) hE hX hR1 (by rw [hx1.ro]; exact hro) hargs (by rw [hH1]; exact hcall)
  refine ⟨l, mark, C1.w, ⟨.fn (.func k) K, F ++ #[.func (.yield l) #[] #[]]⟩, C1.w, k, F ++ #[.func (.yield l) #[] #[]] ++ K, C1.w, hlay, ?_, fun _ _ => trivial, ?_, fun h => (by cases h), ?_⟩
  · simp only [resolve, hG, Deferred.ofValue, Sem.run_pure, List.map_toArray, List.map_cons, List.map_nil]
    rfl
  · simp only [invoke]
    exact hent _
  · refine (fr_calls (r := r) (n := 0 - 1)).2 (Calls.mono hcl ?_)
    rintro e w' ⟨V, C2, rfl, rfl, hct⟩
    have hH2 := hct.H
    subst hH2
    obtain ⟨⟨r2, st2, y1, y2, y3⟩, hρm⟩ := hct.ext.lp _ _ _ hrow1 rfl rfl
    have hρ2 := hρm l hρ1
    have hx2 := hx1.trans hct.ext
    obtain ⟨⟨rec2, n1, n2, n3, n4, n5, n6⟩, _, _⟩ := hct.rh.lps _ l r2 _ hρ2 y1 y2 y3
    have hro2' : C2.ro ≤ C.H.length := by rw [hx2.ro]; exact hR.ro
    have fin : ∀ (H3 : List Row) (info : LoopI), loopAt C2.H C.H.length = some info → setSt C2.H C.H.length .over = some H3 → rec2.state ≠ .busy → ∃ C3 : Ctx, (Instr.endLoop l).run P C2.w = .ok rec2.pending C3.w ∧ Ext C C3 ∧ RH P C3 ∧ C3.H = H3 ∧ RSl P C3 S a.tmps ∧ Dfs C.w a C3.w { a with defers := mark ++ a.defers } := by
      intro H3 info hi hst hb
      obtain ⟨hx3, hR3⟩ := setSt_sound (st := .over) (rec' := { rec2 with state := .exhausted }) hct.rh hst hρ2 hro2' n1 rfl rfl rfl rfl trivial
      exact ⟨_, run_endLoop n1 hb, hx2.trans hx3, hR3, rfl, hs.mono (hx2.trans hx3), (hd1.next hR1 hct.ext).next hct.rh hx3⟩
    have stq : ∀ (kk : LoopK) (st : LSt), loopAt C2.H C.H.length = some ⟨kk, st⟩ → st = st2 := by
      intro kk st hq
      obtain ⟨r3, w1, w2, w3⟩ := loopAt_some hq
      rw [y1] at w1; cases w1
      rw [y2] at w2; cases w2
      rfl
    unfold overQ at h
    split at h
    · rename_i kk H3 hq hst
      cases h
      have := stq _ _ hq
      subst this
      obtain ⟨C3, f1, f2, f3, f4, f5, f6⟩ := fin _ _ hq hst (by rw [n6.1]; simp)
      refine ⟨_, _, f1, ?_⟩
      rw [n6.2]
      exact hQ _ C3 f6 f4 f2 f3 f5
    · rename_i kk H3 hq hst
      cases h
      have := stq _ _ hq
      subst this
      obtain ⟨C3, f1, f2, f3, f4, f5, f6⟩ := fin _ _ hq hst (by rw [n6.1]; simp)
      refine ⟨_, _, f1, ?_⟩
      rw [n6.2]
      exact wpIn_ret (hQ _ C3 f6 f4 f2 f3 f5)
    · rename_i kk id H3 hq hst
      cases h
      have := stq _ _ hq
      subst this
      obtain ⟨C3, f1, f2, f3, f4, f5, f6⟩ := fin _ _ hq hst (by rw [n6.1]; simp)
      refine ⟨_, _, f1, ?_⟩
      rw [n6.2]
      exact wpIn_exit (hQ _ C3 f6 f4 f2 f3 f5)
    · cases h

theorem wpTo_nils {P : Program} {c : Code} {ro : Nat} {S' : List PV} {H' : List Row} {x : PX} : ∀ (l : List (Tmp × TypeId × Nat)) (S : List PV) (H : List Row), WpTo P c ro (nilsQ l S H).1 (nilsQ l S H).2 x S' H' → WpTo P c ro S H x S' H'
  | [], _, _, h => h
  | (d, t, s) :: l, S, H, h => by
    unfold nilsQ at h
    split at h
    · rename_i hd
      have h1 := wpTo_nils l _ _ h
      intro r C a hH hro hR hs hro2 Q hQ
      subst hH
      have hx := more_ext hR { es := [], s, t, bv := true, nl := true }
      refine h1 r (C.more { es := [], s, t, bv := true, nl := true }) a rfl hro (more_rh hR _) ?_ hro2 Q fun a' C' hdf hH' hx' hR' hs' => hQ a' C' hdf hH' (hx.trans hx') hR' hs'
      refine ⟨by rw [List.length_set]; exact hs.1, fun i p v g1 g2 => ?_⟩
      by_cases hi : i = d
      · subst hi
        rw [List.getElem?_set_self (List.getElem?_eq_some_iff.1 hd).1] at g1
        cases g1
        cases hs.2 i _ v hd g2
        have hrow : (C.more { es := [], s, t, bv := true, nl := true }).row? C.H.length = some { es := [], s, t, bv := true, nl := true } := by
          show rowAt (C.H ++ _) C.H.length = _
          simp [rowAt]
        refine .sl ⟨_, _, rfl⟩ (by show C.H.length < (C.H ++ _).length; simp) (fun r _ => Nat.zero_le _) fun r hr _ => ⟨Nat.le_refl _, none, 0, rfl, Nat.le_refl _, ?_⟩
        rw [hrow] at hr
        cases hr
        exact ⟨rfl, rfl⟩
      · rw [List.getElem?_set_ne (fun e => hi e.symm)] at g1
        exact (hs.2 i p v g1 g2).mono hx
    · exact wpTo_nils l _ _ h

theorem exec_sound {P : Program} {E : Env} (hE : EnvOK P E)
    (hdraw : ∀ {ex : Ex}, ExSound P E ex → ∀ {ro id : Nat} {ops : Array Oper} {S S' : List PV} {H H' : List Row}, drawOk P ops.toList = true → opsQ (stepE P E ex) ops ops.toList S H = some (S', H') → WpTo P (.region id ops true) ro S H .normal S' H')
    (hmix : ∀ {ex : Ex}, ExSound P E ex → ∀ {ro id : Nat} {ops : Array Oper} {S S' : List PV} {H H' : List Row} {W G : List (List Nat)}, drawOk P ops.toList = true → opsJ (stepsM P E ex ro W G (masks ops.toList []) ops.size) ops 0 ops.toList S H = some (S', H') → WpTo P (.region id ops true) ro S H .normal S' H')
    (hpiv : ∀ {ex : Ex}, ExSound P E ex → ∀ {ro id pv : Nat} {ops : Array Oper} {S S' : List PV} {H H' : List Row}, drawOk P ops.toList = true → pivotOk (masks ops.toList []) ops.size pv = true → opsJ (stepsP P E ex ro pv) ops 0 ops.toList S H = some (S', H') → WpTo P (.region id ops true) ro S H .normal S' H') :
    ∀ n, ExSound P E (exec P E n)
  | 0 => fun _ _ _ _ _ _ _ _ h => by simp [exec] at h
  | n + 1 => by
    have ih := exec_sound hE hdraw hmix hpiv n
    intro ro f c S H x S' H' h hl
    cases c <;> simp only [exec] at h
    case skip => cases h; intro r C a hH hro hR hs hro2 Q hQ; exact wpIn_skip (hQ a C (.of_eq rfl) hH (.refl C) hR hs)
    case label => cases h; intro r C a hH hro hR hs hro2 Q hQ; exact wpIn_label (hQ a C (.of_eq rfl) hH (.refl C) hR hs)
    case region id ops draw =>
      split at h
      · rename_i hd
        subst hd
        split at h
        · rename_i hok
          split at h
          · split at h
            · rename_i hp
              obtain ⟨⟨S1, H1⟩, h1, he⟩ := Option.map_eq_some_iff.1 h
              cases he
              exact hpiv ih hok hp h1
            · cases h
          · split at h
            · obtain ⟨⟨S1, H1⟩, h1, he⟩ := Option.map_eq_some_iff.1 h
              cases he
              exact hmix ih hok h1
            · obtain ⟨⟨S1, H1⟩, h1, he⟩ := Option.map_eq_some_iff.1 h
              cases he
              exact hdraw ih hok h1
        · cases h
      · rename_i hd
        have hd : draw = false := by simpa using hd
        subst hd
        obtain ⟨⟨S1, H1⟩, h1, he⟩ := Option.map_eq_some_iff.1 h
        cases he
        exact region_sound hE ih h1
    case seq c1 c2 =>
      intro r C a hH hro hR hs hro2 Q hQ
      refine wpIn_seq ?_
      split at h
      · rename_i S1 H1 h1
        refine ih ro f c1 S H _ _ _ h1 (hl.sub (.seq1 .here)) r C a hH hro hR hs hro2 _ fun a' C' hd hH' hx hR' hs' => ?_
        refine ih ro f c2 S1 H1 _ _ _ h (hl.sub (.seq2 .here)) r C' a' hH' (by rw [hx.ro]; exact hro) hR' hs' (hro2.mono hx) Q fun a2 C2 hd2 hH2 hx2 hR2 hs2 => hQ a2 C2 (hd.trans hx.size hR' hx2 hd2) hH2 (hx.trans hx2) hR2 hs2
      · rename_i rr hne
        have hx : x ≠ .normal := fun e => by subst e; exact hne _ _ h
        refine ih ro f c1 S H _ _ _ h (hl.sub (.seq1 .here)) r C a hH hro hR hs hro2 _ fun a' C' hd hH' hxt hR' hs' => ?_
        have hq := hQ a' C' hd hH' hxt hR' hs'
        cases x with
        | normal => exact absurd rfl hx
        | exit id => exact hq
        | ret => exact hq
    case cond c x1 y1 =>
      intro r C a hH hro hR hs hro2 Q hQ
      split at h
      · rename_i t ht
        have hv := hs.ev c
        rw [ht] at hv
        generalize hV : a.eval c = V at hv
        cases hv
        cases t with
        | true => exact wpIn_cond hV (ih ro f x1 S H _ _ _ h (hl.sub (.cond1 .here)) r C a hH hro hR hs hro2 Q hQ)
        | false => exact wpIn_cond hV (ih ro f y1 S H _ _ _ h (hl.sub (.cond2 .here)) r C a hH hro hR hs hro2 Q hQ)
      · cases h
    case block id b =>
      intro r C a hH hro hR hs hro2 Q hQ
      refine wpIn_block ?_
      split at h
      · rename_i i S1 H1 h1
        refine ih ro f b S H _ _ _ h1 (hl.sub (.block .here)) r C a hH hro hR hs hro2 _ fun a' C' hd hH' hxt hR' hs' => ?_
        show (if i = id then Q .normal a' C'.w else Q (.exit i) a' C'.w)
        split at h
        · rename_i hi; cases h; rw [if_pos hi]; exact hQ a' C' hd hH' hxt hR' hs'
        · rename_i hi; cases h; rw [if_neg hi]; exact hQ a' C' hd hH' hxt hR' hs'
      · rename_i rr hne
        refine ih ro f b S H _ _ _ h (hl.sub (.block .here)) r C a hH hro hR hs hro2 _ fun a' C' hd hH' hxt hR' hs' => ?_
        have hq := hQ a' C' hd hH' hxt hR' hs'
        cases x with
        | normal => exact hq
        | exit i => exact absurd h (hne i _ _)
        | ret => exact hq
    case loop b =>
      refine wpTo_nils (E.nils f (rid b)) S H ?_
      split at h
      · rename_i r hr
        cases h
        intro r C a hH hro hR hs hro2 Q hQ
        exact (hE.loh hl).1 ro _ _ x S' H' hr r C a hH hro hR (keepS_sound _ hs) hro2 Q hQ
      · intro r C a hH hro hR hs hro2 Q hQ
        exact wpIn_loop_rounds n (iterQ_sound (r := r) (fun S H x S' H' hb => ih ro f b S H x S' H' hb (hl.sub (.loop .here))) n h C a hH hro hR hs hro2 Q hQ)
    case scope b =>
      intro r C a hH hro hR hs hro2 Q hQ
      refine wpIn_scope_straight ?_
      refine ih ro f b S H _ _ _ h (hl.sub (.scope .here)) r C a hH hro hR hs hro2 _ fun a' C' hd hH' hxt hR' hs' => ?_
      have hq := hQ a' C' hd hH' hxt hR' hs'
      cases x <;> exact hq
    case exit id => cases h; intro r C a hH hro hR hs hro2 Q hQ; exact wpIn_exit (hQ a C (.of_eq rfl) hH (.refl C) hR hs)
    case ret => cases h; intro r C a hH hro hR hs hro2 Q hQ; exact wpIn_ret (hQ a C (.of_eq rfl) hH (.refl C) hR hs)
    case rangeFunc g ps asg body => intro r C a hH hro hR hs hro2 Q hQ; exact range_sound hE ih hl h r C a hH hro hR (keepS_sound _ hs) hro2 Q hQ
    all_goals cases h
end Go.Hx
