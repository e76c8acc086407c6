/- Hx: a region that draws its order, with one operation that everything else is in order with (a yield): what is before it, it, what is behind it. -/
import Derived.Test.YtadcoepikgjgmaaHxMix
namespace Go.Hx

theorem stepP_stepE {P : Program} {E : Env} {ex : Ex} {S : List PV} {H H' : List Row} {o : Oper} {p : PV} (h : stepP P E ex S H o = some (p, H')) : H' = H ∧ stepE P E ex S H o = some (p, H) := by
  unfold stepP at h
  split at h
  · rename_i q H1 hs
    split at h
    · rename_i hl
      cases h
      rcases stepE_rows hs with rfl | ⟨r, rfl⟩
      · exact ⟨rfl, hs⟩
      · simp at hl
    · cases h
  · cases h

theorem pivot_sound {P : Program} {E : Env} (hE : EnvOK P E) {ex : Ex} (hX : ExSound P E ex) {ro id pv : Nat} {ops : Array Oper} {S S' : List PV} {H H' : List Row} (hok : drawOk P ops.toList = true)
    (hpv : pivotOk (masks ops.toList []) ops.size pv = true) (h : opsJ (stepsP P E ex ro pv) ops 0 ops.toList S H = some (S', H')) : WpTo P (.region id ops true) ro S H .normal S' H' := by
  obtain ⟨Sf, Hf, pf, e1, e2, e3, e4, hone⟩ := traceJ ops.toList 0 h
  generalize hL : ops.toList = L at *
  have hget : ∀ j, ops[j]? = L[j]? := fun j => by rw [← hL, Array.getElem?_toList]
  have hsize : ops.size = L.length := by rw [← hL]; simp
  simp only [drawOk, Bool.and_eq_true] at hok
  obtain ⟨⟨hmix, _⟩, hall⟩ := hok
  -- the edges
  have hchk : ∀ (j : Nat) o, L[j]? = some o → (∀ e, e ∈ o.after → Region.binds .any e = true → e.on < j) ∧ ∀ (i : Nat) q, L[i]? = some q → i < j → q.apart ops o = true ∨ Reach L j i := by
    intro j o ho
    have h1 := List.all_eq_true.1 hall (o, j) (by rw [List.mem_zipIdx_iff_getElem?]; simpa using ho)
    simp only [Bool.and_eq_true] at h1
    refine ⟨fun e he hb => ?_, fun i q hq hij => ?_⟩
    · have := Array.all_eq_true_iff_forall_mem.1 h1.1 e he
      simpa [hb] using this
    · have h2 := List.all_eq_true.1 h1.2 (q, i) (by rw [List.mem_zipIdx_iff_getElem?]; simpa using hq)
      simp only [Bool.or_eq_true, Bool.not_eq_true', decide_eq_false_iff_not] at h2
      rcases h2 with (h2 | h2) | h2
      · exact absurd hij h2
      · refine .inl ?_
        have : L.toArray = ops := by rw [← hL]
        rwa [this] at h2
      · exact .inr (masks_reach L [] (by simp) (fun j i hb => by simp at hb) j i h2)
  -- the trace
  have hlen : ∀ j, j ≤ L.length → (Sf j).length = S.length := by
    intro j
    induction j with
    | zero => intro _; rw [e1]
    | succ j ih =>
      intro hj
      have ho : L[j]? = some (L[j]'(by omega)) := List.getElem?_eq_getElem _
      rw [(hone j _ ho).1]
      have := ih (by omega)
      cases (L[j]'(by omega)).dst <;> simp [putS, this]
  simp only [pivotOk, Bool.and_eq_true, decide_eq_true_eq] at hpv
  obtain ⟨hpl, hpo⟩ := hpv
  rw [hsize] at hpl
  have hord : ∀ j, j < L.length → j ≠ pv → Reach L pv j ∨ Reach L j pv := by
    intro j hj hne
    have := List.all_eq_true.1 hpo j (List.mem_range.2 (by rw [hsize]; exact hj))
    simp only [Bool.or_eq_true, beq_iff_eq] at this
    rcases this with (h1 | h1) | h1
    · exact absurd h1 hne
    · exact .inl (masks_reach L [] (by simp) (fun j i hb => by simp at hb) pv j h1)
    · exact .inr (masks_reach L [] (by simp) (fun j i hb => by simp at hb) j pv h1)
  have hdown : ∀ j i, Reach L j i → i < j := by
    intro j i hr
    induction hr with
    | one ho he hb => exact (hchk _ _ ho).1 _ he hb
    | more ho he hb _ ih => have := (hchk _ _ ho).1 _ he hb; omega
  have hkeep : ∀ j, j < L.length → j ≠ pv → Hf (j + 1) = Hf j := by
    intro j hj hne
    have ho : L[j]? = some (L[j]'hj) := List.getElem?_eq_getElem _
    rcases (hone j _ ho).2 with ⟨_, _, h2⟩ | ⟨_, h2⟩
    · exact h2
    · rw [Nat.zero_add] at h2
      unfold stepsP at h2
      rw [if_neg hne] at h2
      exact (stepP_stepE h2).1
  have hbef : ∀ j, j ≤ pv → Hf j = H := by
    intro j
    induction j with
    | zero => intro _; exact e2
    | succ j ih => intro hj; rw [hkeep j (by omega) (by omega), ih (by omega)]
  have haft : ∀ d, pv + 1 + d ≤ L.length → Hf (pv + 1 + d) = Hf (pv + 1) := by
    intro d
    induction d with
    | zero => intro _; rfl
    | succ d ih => intro hd; rw [← Nat.add_assoc, hkeep _ (by omega) (by omega), ih (by omega)]
  have hbeh : ∀ j, pv < j → j ≤ L.length → Hf j = H' := by
    intro j h1 h2
    have a1 := haft (j - (pv + 1)) (by omega)
    have a2 := haft (L.length - (pv + 1)) (by omega)
    rw [show pv + 1 + (j - (pv + 1)) = j by omega] at a1
    rw [show pv + 1 + (L.length - (pv + 1)) = L.length by omega, e4] at a2
    rw [a1, ← a2]
  have hslots := slotAt_all (L := L) (S := S) (pf := pf) e1 hlen fun j o ho => (hone j o ho).1
  -- the walk
  intro r C a hH hro hR hs _ Q hQ
  refine wpIn_region_any hmix ?_
  -- the invariant
  let D : Array Bool → Nat → Prop := fun listed j => listed.getD j false = true
  let Inv : Array Bool → Act → World → Prop := fun listed a1 w => ∃ C1 : Ctx, C1.w = w ∧ ((¬ D listed pv ∧ C1.H = H) ∨ (D listed pv ∧ C1.H = H')) ∧ Ext C C1 ∧ RH P C1 ∧ a1.tmps.size = S.length ∧ a1.defers = a.defers ∧
    (∀ t p v, slotAt L S pf (D listed) L.length t = some p → a1.tmps[t]? = some v → RV P C1 p v)
  have final : ∀ listed a1 w, (∀ j, j < L.length → D listed j) → Inv listed a1 w → Q .normal a1 w := by
    rintro listed a1 w hd ⟨C1, rfl, h1, h2, h3, h4, h5, h7⟩
    have h1 : C1.H = H' := by
      rcases h1 with ⟨h1, _⟩ | ⟨_, h1⟩
      · exact absurd (hd pv hpl) h1
      · exact h1
    refine hQ a1 C1 (.of_eq h5) h1 h2 h3 ⟨by rw [h4, ← e3, hlen _ (Nat.le_refl _)], fun t p v g1 g2 => h7 t p v ?_ g2⟩
    rw [slotAt_congr (D' := fun _ => True) _ fun j hj _ => ⟨fun _ => trivial, fun _ => hd j hj⟩, hslots _ (Nat.le_refl _), e3]
    exact g1
  have hready : ∀ listed, HeadInv .any ops ops.size listed → Region.ready .any ops listed = [] → ∀ j, j < L.length → D listed j := by
    intro listed hinv hnil j
    induction j using Nat.strongRecOn with
    | _ j ih =>
      intro hj
      by_cases hDj : D listed j
      · exact hDj
      · exfalso
        have ho : L[j]? = some (L[j]'hj) := List.getElem?_eq_getElem _
        have hlj : j < listed.size := by rw [hinv.size, hsize]; exact hj
        have : j ∈ Region.ready .any ops listed := mem_ready.2 ⟨getD_in hlj (by simpa [D] using hDj), L[j]'hj, by rw [hget]; exact ho, fun e he hb => by
          have hlt := (hchk j _ ho).1 e he hb
          exact ih e.on hlt (by omega)⟩
        rw [hnil] at this
        cases this
  have main : ∀ fuel listed a1 w, HeadInv .any ops ops.size listed → (List.range L.length).countP (fun j => !listed.getD j false) ≤ fuel → Inv listed a1 w → wpAnyIn (Fr r) 0 P .any ops Q fuel listed a1 w := by
    intro fuel
    induction fuel with
    | zero =>
      intro listed a1 w hinv hc hI
      have hd : ∀ j, j < L.length → D listed j := by
        intro j hj
        by_cases hDj : D listed j
        · exact hDj
        · exfalso
          have : 0 < (List.range L.length).countP (fun j => !listed.getD j false) := List.countP_pos_iff.2 ⟨j, List.mem_range.2 hj, by simpa [D] using hDj⟩
          omega
      refine ⟨?_, final listed a1 w hd hI⟩
      cases hr : Region.ready .any ops listed with
      | nil => rfl
      | cons x xs =>
        exfalso
        have hx : x ∈ Region.ready .any ops listed := by rw [hr]; simp
        obtain ⟨h1, o, ho, _⟩ := mem_ready.1 hx
        have hxl : x < L.length := by rw [hget] at ho; exact (List.getElem?_eq_some_iff.1 ho).1
        have h9 : listed.getD x false = true := hd x hxl
        rw [getD_both h1] at h9
        cases h9
    | succ fuel ih =>
      intro listed a1 w hinv hc hI
      refine ⟨fun hnil => final listed a1 w (hready listed hinv hnil) hI, fun i hi => ?_⟩
      obtain ⟨h1, o, ho, hedges⟩ := mem_ready.1 hi
      have hoL : L[i]? = some o := by rw [← hget]; exact ho
      have hiL : i < L.length := (List.getElem?_eq_some_iff.1 hoL).1
      have hnD : ¬ D listed i := by show ¬ listed.getD i false = true; rw [getD_both h1]; simp
      have hil : i < listed.size := by rw [hinv.size, hsize]; exact hiL
      have hclosed : ∀ j o e, L[j]? = some o → D listed j → e ∈ o.after → Region.binds .any e = true → D listed e.on := fun j o e hj hDj he hb => hinv.closed j o (by rw [hget]; exact hj) hDj e he hb
      have hpreds : ∀ j, Reach L i j → D listed j := fun j hr => hr.ready hclosed fun o' e ho' he hb => by
        have : o' = o := Option.some.inj (ho'.symm.trans hoL)
        subst this
        exact hedges e he hb
      have hsuccs : ∀ j, Reach L j i → ¬ D listed j := fun j hr hDj => hnD (hr.closed hclosed hDj)
      have hinv' := hinv.set hi (by rw [hsize]; exact hiL)
      have hcount : (List.range L.length).countP (fun j => !(listed.setIfInBounds i true).getD j false) ≤ fuel := by
        have := countP_set (p := fun j => !listed.getD j false) (q := fun j => !(listed.setIfInBounds i true).getD j false) (i := i) (List.nodup_range (n := L.length)) (List.mem_range.2 hiL)
          (by simp only [Bool.not_eq_true']; exact getD_both h1) (by simp [hil]) (fun j hj => by simp only [getD_set_ne false (fun e => hj e.symm)])
        omega
      have hD' : ∀ j, D (listed.setIfInBounds i true) j ↔ D listed j ∨ j = i := by
        intro j
        by_cases hji : j = i
        · subst hji
          simp [D, hil]
        · simp only [D, getD_set_ne false (fun e => hji e.symm), hji, or_false]
      obtain ⟨C1, rfl, c1, c2, c3, c4, c5, c7⟩ := hI
      have hHi : C1.H = Hf i := by
        rcases Nat.lt_trichotomy i pv with hlt | heq | hgt
        · rcases c1 with ⟨_, c1⟩ | ⟨c0, _⟩
          · rw [c1, hbef i (by omega)]
          · rcases hord i hiL (by omega) with hr | hr
            · exact absurd (hr.closed hclosed c0) hnD
            · have := hdown _ _ hr; omega
        · subst heq
          rcases c1 with ⟨_, c1⟩ | ⟨c0, _⟩
          · rw [c1, hbef i (by omega)]
          · exact absurd c0 hnD
        · rcases c1 with ⟨c0, _⟩ | ⟨_, c1⟩
          · rcases hord i hiL (by omega) with hr | hr
            · have := hdown _ _ hr; omega
            · exact absurd (hpreds pv hr) c0
          · rw [c1, hbeh i hgt (by omega)]
      have hnext : (¬ D (listed.setIfInBounds i true) pv ∧ Hf (i + 1) = H) ∨ (D (listed.setIfInBounds i true) pv ∧ Hf (i + 1) = H') := by
        rcases Nat.lt_trichotomy i pv with hlt | heq | hgt
        · refine .inl ⟨fun hh => ?_, hbef (i + 1) (by omega)⟩
          rcases (hD' pv).1 hh with hh | hh
          · rcases hord i hiL (by omega) with hr | hr
            · exact hnD (hr.closed hclosed hh)
            · have := hdown _ _ hr; omega
          · omega
        · exact .inr ⟨(hD' pv).2 (.inr heq.symm), hbeh (i + 1) (by omega) (by omega)⟩
        · refine .inr ⟨(hD' pv).2 (.inl ?_), hbeh (i + 1) (by omega) (by omega)⟩
          rcases hord i hiL (by omega) with hr | hr
          · have := hdown _ _ hr; omega
          · exact hpreds pv hr
      -- the slots that it looks at
      have hread : ∀ t ∈ o.looksAt ops, ∀ p v, (Sf i)[t]? = some p → a1.tmps[t]? = some v → RV P C1 p v := by
        intro t ht p v g1 g2
        refine c7 t p v ?_ g2
        rw [slotAt_cut i L.length (by omega) fun j hij hjn hd => ?_, slotAt_congr (D' := fun _ => True) i fun j hj hd => ⟨fun _ => trivial, fun _ => ?_⟩, hslots i (by omega)]
        · exact g1
        · -- a writer before
          obtain ⟨q, hq, hqd⟩ := Option.bind_eq_some_iff.1 hd
          rcases (hchk i o hoL).2 j q hq hj with hap | hr
          · exact absurd ht ((Oper.apart_spec hap).1 t hqd)
          · exact hpreds j hr
        · -- a writer behind
          by_cases hji : j = i
          · subst hji; exact hnD
          · obtain ⟨q, hq, hqd⟩ := Option.bind_eq_some_iff.1 hd
            rcases (hchk j q hq).2 i o hoL (by omega) with hap | hr
            · exact absurd ht ((Oper.apart_spec hap).2.2 t hqd)
            · exact hsuccs j hr
      have hopnd : ∀ x ∈ o.op.operands, RV P C1 (ev (Sf i) x) (a1.eval x) := by
        intro x hx
        cases x with
        | tmp t =>
          have ht : t ∈ o.looksAt ops := by
            simp only [Oper.looksAt]
            exact List.mem_append_left _ (List.mem_filterMap.2 ⟨.tmp t, by simpa using hx, rfl⟩)
          show RV P C1 ((Sf i).getD t (.val undef)) (a1.tmps.getD t undef)
          have hl := hlen i (by omega)
          by_cases htl : t < S.length
          · have g1 : (Sf i)[t]? = some ((Sf i)[t]'(by rw [hl]; exact htl)) := List.getElem?_eq_getElem _
            have g2 : a1.tmps[t]? = some (a1.tmps[t]'(by rw [c4]; exact htl)) := Array.getElem?_eq_getElem _
            have := hread t ht _ _ g1 g2
            simpa [List.getD, Array.getD, htl, hl, c4] using this
          · have g1 : (Sf i).getD t (.val undef) = .val undef := by simp [List.getD, List.getElem?_eq_none (show (Sf i).length ≤ t by rw [hl]; exact Nat.le_of_not_lt htl)]
            have g2 : a1.tmps.getD t undef = undef := by simp [Array.getD, c4, htl]
            rw [g1, g2]; exact .val
        | const v => exact .val
        | global g => exact .any
        | func f => exact .fn rfl rfl (fun j c v h => by simp at h) (fun j c v h => by simp at h)
      -- what it leaves
      have hwrite : ∀ (C2 : Ctx) (v : Value), C2.H = Hf (i + 1) → Ext C1 C2 → RH P C2 → RV P C2 (pf i) v →
          wpAnyIn (Fr r) 0 P .any ops Q fuel (listed.setIfInBounds i true) (a1.put o.dst v) C2.w := by
        intro C2 v k1 k2 k3 k4
        refine ih _ _ _ hinv' hcount ⟨C2, rfl, by rw [k1]; exact hnext, c2.trans k2, k3, ?_, ?_, fun t p u g1 g2 => ?_⟩
        · cases o.dst <;> simp [Act.put, c4]
        · cases o.dst <;> exact c5
        · by_cases hdt : o.dst = some t
          · -- its own slot
            have htl : t < S.length := by
              have h9 := (Array.getElem?_eq_some_iff.1 g2).1
              rw [hdt] at h9
              simp only [Act.put, Array.size_setIfInBounds, c4] at h9
              exact h9
            have hself : slotAt L S pf (D (listed.setIfInBounds i true)) L.length t = some (pf i) := by
              rw [slotAt_cut (i + 1) L.length (by omega) fun j hij hjn hd => ?_]
              · simp only [slotAt]
                rw [if_pos ⟨(hD' i).2 (.inr rfl), by simp [hoL, hdt], htl⟩]
              · obtain ⟨q, hq, hqd⟩ := Option.bind_eq_some_iff.1 hd
                intro hDj
                rcases (hD' j).1 hDj with hDj | hji
                · rcases (hchk j q hq).2 i o hoL (by omega) with hap | hr
                  · exact (Oper.apart_spec hap).2.1 t hdt hqd
                  · exact hsuccs j hr hDj
                · omega
            rw [hself] at g1
            cases g1
            rw [hdt] at g2
            simp only [Act.put] at g2
            rw [Array.getElem?_setIfInBounds, if_pos rfl] at g2
            split at g2
            · cases g2; exact k4
            · cases g2
          · -- another's
            have hsame : slotAt L S pf (D (listed.setIfInBounds i true)) L.length t = slotAt L S pf (D listed) L.length t := by
              refine slotAt_congr _ fun j hj hd => ?_
              rw [hD' j]
              refine ⟨fun hh => hh.resolve_right fun e => ?_, fun hh => .inl hh⟩
              subst e
              rw [hoL] at hd
              exact hdt hd
            rw [hsame] at g1
            have g3 : a1.tmps[t]? = some u := by
              cases hod : o.dst with
              | none => rw [hod] at g2; exact g2
              | some d =>
                rw [hod] at g2 hdt
                simp only [Act.put] at g2
                rw [Array.getElem?_setIfInBounds, if_neg (fun e => hdt (by rw [e]))] at g2
                exact g2
            exact (c7 t p u g1 g3).mono k2
      unfold wpOpIn
      simp only [ho]
      obtain ⟨_, hcase⟩ := hone i o hoL
      rcases hcase with ⟨hg, hp, hHe⟩ | ⟨hg, hst⟩
      · have hw := guard_wanted (by rw [c4, hlen i (by omega)]) hread hg
        rw [hw, if_neg (by simp)]
        exact ⟨fun _ _ => trivial, hwrite C1 undef (by rw [hHi, hHe]) (.refl C1) c3 (by rw [hp]; exact .val)⟩
      · have hw := guard_wanted (by rw [c4, hlen i (by omega)]) hread hg
        rw [hw, if_pos rfl]
        rw [Nat.zero_add] at hst
        unfold stepsP at hst
        by_cases hip : i = pv
        · rw [if_pos hip, ← hHi] at hst
          refine stepS_sound hE hX (S := Sf i) c3 (by rw [c2.ro]; exact hro) ⟨by rw [c4, hlen i (by omega)], fun t p v g1 g2 => c7 t p v ?_ g2⟩ hst fun v C' hct => hwrite C' v hct.H hct.ext hct.rh hct.rv
          rw [slotAt_cut i L.length (by omega) fun j hij hjn hd => ?_, slotAt_congr (D' := fun _ => True) i fun j hj hd => ⟨fun _ => trivial, fun _ => ?_⟩, hslots i (by omega)]
          · exact g1
          · rcases hord j (by omega) (by omega) with hr | hr
            · exact hpreds j (by rw [hip]; exact hr)
            · have := hdown _ _ hr; omega
          · by_cases hji : j = i
            · subst hji; exact hnD
            · rcases hord j (by omega) (by omega) with hr | hr
              · have := hdown _ _ hr; omega
              · exact hsuccs j (by rw [hip]; exact hr)
        · rw [if_neg hip] at hst
          obtain ⟨hHe, hst⟩ := stepP_stepE hst
          rw [← hHi] at hst
          exact stepE_sound hE hX c3 c3.ro (List.take_length) (List.take_length) (fun x hx1 hx2 => by omega) hopnd hst fun v C' k1 k2 k3 k4 k5 _ => hwrite C' v (by rw [k1, hHe, hHi]) k2 k3 k4
  refine main ops.size _ _ _ ⟨by simp, fun j oj _ hl => (by rw [getD_replicate_false] at hl; cases hl), fun t h1 h2 => absurd h2 (by omega)⟩ ?_ ?_
  · rw [hsize]
    exact Nat.le_trans List.countP_le_length (by simp)
  · refine ⟨C.dr, rfl, .inl ⟨(fun hj => by simp only [D, getD_replicate_false] at hj; cases hj), hH⟩, dr_ext C, dr_rh hR, hs.1, rfl, fun t p v g1 g2 => ?_⟩
    have : slotAt L S pf (D (Array.replicate ops.size false)) L.length t = S[t]? := by
      rw [slotAt_cut 0 L.length (by omega) fun j _ _ _ hDj => by
        simp only [D, getD_replicate_false] at hDj
        cases hDj]
      rfl
    rw [this] at g1
    exact (hs.2 t p v g1 g2).mono (dr_ext C)

theorem exec_ok {P : Program} {E : Env} (hE : EnvOK P E) (n : Nat) : ExSound P E (exec P E n) :=
  exec_sound hE (fun hX _ _ _ _ _ _ _ hd h => draw_sound hE hX hd h) (fun hX _ _ _ _ _ _ _ _ _ hd h => mix_sound hE hX hd h) (fun hX _ _ _ _ _ _ _ _ hd hp h => pivot_sound hE hX hd hp h) n
end Go.Hx
