/- Hx: a region that draws its order, with one operation that everything else is in order with (a yield): what is before it, it, what is behind it. -/
import Derived.Test.YtliaeiggcleoaaaPart3
namespace Go.Hx

theorem stepP_stepE {P : Program} {E : Env} {ex : Ex} {S : List PV} {H H' : List Row} {o : Oper} {p : PV} (h : stepP P E ex S H o = some (p, H')) : H' = H ∧ stepE P E ex S H o = some (p, H) := by
  unfold stepP at h
  split at h
  · rename_i q H1 hs
    split at h
    · rename_i hl
      cases h
      rcases stepE_rows hs with rfl | ⟨r, rfl⟩
      · exact ⟨rfl, hs⟩
      · simp at hl
    · cases h
  · cases h

theorem pivot_sound {P : Program} {E : Env} (hE : EnvOK P E) {ex : Ex} (hX : ExSound P E ex) {ro id pv : Nat} {ops : Array Oper} {S S' : List PV} {H H' : List Row} (hok : drawOk P ops.toList = true)
    (hpv : pivotOk (masks ops.toList []) ops.size pv = true) (h : opsJ (stepsP P E ex ro pv) ops 0 ops.toList S H = some (S', H')) : WpTo P (.region id ops true) ro S H .normal S' H' := by
  obtain ⟨Sf, Hf, pf, e1, e2, e3, e4, hone⟩ := traceJ ops.toList 0 h
  generalize hL : ops.toList = L at *
  have hget : ∀ j, ops[j]? = L[j]? := fun j => by rw [← hL, Array.getElem?_toList]
  have hsize : ops.size = L.length := by rw [← hL]; simp
  simp only [drawOk, Bool.and_eq_true] at hok
  obtain ⟨⟨hmix, _⟩, hall⟩ := hok
  -- the edges
  have hchk : ∀ (j : Nat) o, L[j]? = some o → (∀ e, e ∈ o.after → Region.binds .any e = true → e.on < j) ∧ ∀ (i : Nat) q, L[i]? = some q → i < j → q.apart ops o = true ∨ Reach L j i := by
    intro j o ho
    have h1 := List.all_eq_true.1 hall (o, j) (by rw [List.mem_zipIdx_iff_getElem?]; simpa using ho)
    simp only [Bool.and_eq_true] at h1
    refine ⟨fun e he hb => ?_, fun i q hq hij => ?_⟩
    · have := Array.all_eq_true_iff_forall_mem.1 h1.1 e he
      simpa [hb] using this
    · have h2 := List.all_eq_true.1 h1.2 (q, i) (by rw [List.mem_zipIdx_iff_getElem?]; simpa using hq)
      simp only [Bool.or_eq_true, Bool.not_eq_true', decide_eq_false_iff_not] at h2
      rcases h2 with (h2 | h2) | h2
      · exact absurd hij h2
      · refine .inl ?_
        have : L.toArray = ops := by rw [← hL]
        rwa [this] at h2
      · exact .inr (masks_reach L [] (by simp) (fun j i hb => by simp at hb) j i h2)
  -- the trace
  have hlen : ∀ j, j ≤ L.length → (Sf j).length = S.length := by
    intro j
    induction j with
    | zero => intro _; rw [e1]
    | succ j ih =>
      intro hj
      have ho : L[j]? = some (L[j]'(by omega)) := List.getElem?_eq_getElem _
      rw [(hone j _ ho).1]
      have := ih (by omega)
      cases (L[j]'(by omega)).dst <;> simp [putS, this]
  simp only [pivotOk, Bool.and_eq_true, decide_eq_true_eq] at hpv
  obtain ⟨hpl, hpo⟩ := hpv
  rw [hsize] at hpl
  have hord : ∀ j, j < L.length → j ≠ pv → Reach L pv j ∨ Reach L j pv := by
    intro j hj hne
    have := List.all_eq_true.1 hpo j (List.mem_range.2 (by rw [hsize]; exact hj))
    simp only [Bool.or_eq_true, beq_iff_eq] at this
    rcases this with (h1 | h1) | h1
    · exact absurd h1 hne
    · exact .inl (masks_reach L [] (by simp) (fun j i hb => by simp at hb) pv j h1)
    · exact .inr (masks_reach L [] (by simp) (fun j i hb => by simp at hb) j pv h1)
  have hdown : ∀ j i, Reach L j i → i < j := by
    intro j i hr
    induction hr with
    | one ho he hb => exact (hchk _ _ ho).1 _ he hb
    | more ho he hb _ ih => have := (hchk _ _ ho).1 _ he hb; omega
  have hkeep : ∀ j, j < L.length → j ≠ pv → Hf (j + 1) = Hf j := by
    intro j hj hne
    have ho : L[j]? = some (L[j]'hj) := List.getElem?_eq_getElem _
    rcases (hone j _ ho).2 with ⟨_, _, h2⟩ | ⟨_, h2⟩
    · exact h2
    · rw [Nat.zero_add] at h2
      unfold stepsP at h2
      rw [if_neg hne] at h2
      exact (stepP_stepE h2).1
  have hbef : ∀ j, j ≤ pv → Hf j = H := by
    intro j
    induction j with
    | zero => intro _; exact e2
    | succ j ih => intro hj; rw [hkeep j (by omega) (by omega), ih (by omega)]
  have haft : ∀ d, pv + 1 + d ≤ L.length → Hf (pv + 1 + d) = Hf (pv + 1) := by
    intro d
    induction d with
    | zero => intro _; rfl
    | succ d ih => intro hd; rw [← Nat.add_assoc, hkeep _ (by omega) (by omega), ih (by omega)]
  have hbeh : ∀ j, pv < j → j ≤ L.length → Hf j = H' := by
    intro j h1 h2
    have a1 := haft (j - (pv + 1)) (by omega)
    have a2 := haft (L.length - (pv + 1)) (by omega)
    rw [show pv + 1 + (j - (pv + 1)) = j by omega] at a1
    rw [show pv + 1 + (L.length - (pv + 1)) = L.length by omega, e4] at a2
    rw [a1, ← a2]
  have hslots := slotAt_all (L := L) (S := S) (pf := pf) e1 hlen fun j o ho => (hone j o ho).1
  -- the walk
  intro r C a hH hro hR hs _ Q hQ
  refine wpIn_region_any hmix ?_
  -- the invariant
  let D : Array Bool → Nat → Prop := fun listed j => listed.getD j false = true
  let Inv : Array Bool → Act → World → Prop := fun listed a1 w => ∃ C1 : Ctx, C1.w = w ∧ ((¬ D listed pv ∧ C1.H = H) ∨ (D listed pv ∧ C1.H = H')) ∧ Ext C C1 ∧ RH P C1 ∧ a1.tmps.size = S.length ∧ a1.defers = a.defers ∧
    (∀ t p v, slotAt L S pf (D listed) L.length t = some p → a1.tmps[t]? = some v → RV P C1 p v)
  have final : ∀ listed a1 w, (∀ j, j < L.length → D listed j) → Inv listed a1 w → Q .normal a1 w := by
    rintro listed a1 w hd ⟨C1, rfl, h1, h2, h3, h4, h5, h7⟩
    have h1 : C1.H = H' := by
      rcases h1 with ⟨h1, _⟩ | ⟨_, h1⟩
      · exact absurd (hd pv hpl) h1
      · exact h1
    refine hQ a1 C1 (.of_eq h5) h1 h2 h3 ⟨by rw [h4, ← e3, hlen _ (Nat.le_refl _)], fun t p v g1 g2 => h7 t p v ?_ g2⟩
    rw [slotAt_congr (D' := fun _ => True) _ fun j hj _ => ⟨fun _ => trivial, fun _ => hd j hj⟩, hslots _ (Nat.le_refl _), e3]
    exact g1
  have hready : ∀ listed, HeadInv .any ops ops.size listed → Region.ready .any ops listed = [] → ∀ j, j < L.length → D listed j := by
    intro listed hinv hnil j
    induction j using Nat.strongRecOn with
    | _ j ih =>
      intro hj
      by_cases hDj : D listed j
      · exact hDj
      · exfalso
        have ho : L[j]? = some (L[j]'hj) := List.getElem?_eq_getElem _
        have hlj : j < listed.size := by rw [hinv.size, hsize]; exact hj
        have : j ∈ Region.ready .any ops listed := mem_ready.2 ⟨getD_in hlj (by simpa [D] using hDj), L[j]'hj, by rw [hget]; exact ho, fun e he hb => by
          have hlt := (hchk j _ ho).1 e he hb
          exact ih e.on hlt (by omega)⟩
        rw [hnil] at this
        cases this
  have main : ∀ fuel listed a1 w, HeadInv .any ops ops.size listed → (List.range L.length).countP (fun j => !listed.getD j false) ≤ fuel → Inv listed a1 w → wpAnyIn (Fr r) 0 P .any ops Q fuel listed a1 w := by
    intro fuel
    induction fuel with
    | zero =>
      intro listed a1 w hinv hc hI
      have hd : ∀ j, j < L.length → D listed j := by
        intro j hj
        by_cases hDj : D listed j
        · exact hDj
        · exfalso
          have : 0 < (List.range L.length).countP (fun j => !listed.getD j false) := List.countP_pos_iff.2 ⟨j, List.mem_range.2 hj, by simpa [D] using hDj⟩
          omega
      refine ⟨?_, final listed a1 w hd hI⟩
      cases hr : Region.ready .any ops listed with
      | nil => rfl
      | cons x xs =>
        exfalso
        have hx : x ∈ Region.ready .any ops listed := by rw [hr]; simp
        obtain ⟨h1, o, ho, _⟩ := mem_ready.1 hx
        have hxl : x < L.length := by rw [hget] at ho; exact (List.getElem?_eq_some_iff.1 ho).1
        have h9 : listed.getD x false = true := hd x hxl
        rw [getD_both h1] at h9
        cases h9
    | succ fuel ih =>
      intro listed a1 w hinv hc hI
      refine ⟨fun hnil => final listed a1 w (hready listed hinv hnil) hI, fun i hi => ?_⟩
      obtain ⟨h1, o, ho, hedges⟩ := mem_ready.1 hi
      have hoL : L[i]? = some o := by rw [← hget]; exact ho
      have hiL : i < L.length := (List.getElem?_eq_some_iff.1 hoL).1
      have hnD : ¬ D listed i := by show ¬ listed.getD i false = true; rw [getD_both h1]; simp
      have hil : i < listed.size := by rw [hinv.size, hsize]; exact hiL
      have hclosed : ∀ j o e, L[j]? = some o → D listed j → e ∈ o.after → Region.binds .any e = true → D listed e.on := fun j o e hj hDj he hb => hinv.closed j o (by rw [hget]; exact hj) hDj e he hb
      have hpreds : ∀ j, Reach L i j → D listed j := fun j hr => hr.ready hclosed fun o' e ho' he hb => by
        have : o' = o := Option.some.inj (ho'.symm.trans hoL)
        subst this
        exact hedges e he hb
      have hsuccs : ∀ j, Reach L j i → ¬ D listed j := fun j hr hDj => hnD (hr.closed hclosed hDj)
      have hinv' := hinv.set hi (by rw [hsize]; exact hiL)
      have hcount : (List.range L.length).countP (fun j => !(listed.setIfInBounds i true).getD j false) ≤ fuel := by
        have := countP_set (p := fun j => !listed.getD j false) (q := fun j => !(listed.setIfInBounds i true).getD j false) (i := i) (List.nodup_range (n := L.length)) (List.mem_range.2 hiL)
          (by simp only [Bool.not_eq_true']; exact getD_both h1) (by simp [hil]) (fun j hj => by simp only [getD_set_ne false (fun e => hj e.symm)])
        omega
      have hD' : ∀ j, D (listed.setIfInBounds i true) j ↔ D listed j ∨ j = i := by
        intro j
        by_cases hji : j = i
        · subst hji
          simp [D, hil]
        · simp only [D, getD_set_ne false (fun e => hji e.symm), hji, or_false]
      obtain ⟨C1, rfl, c1, c2, c3, c4, c5, c7⟩ := hI
      have hHi : C1.H = Hf i := by
        rcases Nat.lt_trichotomy i pv with hlt | heq | hgt
        · rcases c1 with ⟨_, c1⟩ | ⟨c0, _⟩
          · rw [c1, hbef i (by omega)]
          · rcases hord i hiL (by omega) with hr | hr
            · exact absurd (hr.closed hclosed c0) hnD
            · have := hdown _ _ hr; omega
        · subst heq
          rcases c1 with ⟨_, c1⟩ | ⟨c0, _⟩
          · rw [c1, hbef i (by omega)]
          · exact absurd c0 hnD
        · rcases c1 with ⟨c0, _⟩ | ⟨_, c1⟩
          · rcases hord i hiL (by omega) with hr | hr
            · have := hdown _ _ hr; omega
            · exact absurd (hpreds pv hr) c0
          · rw [c1, hbeh i hgt (by omega)]
      have hnext : (¬ D (listed.setIfInBounds i true) pv ∧ Hf (i + 1) = H) ∨ (D (listed.setIfInBounds i true) pv ∧ Hf (i + 1) = H') := by
        rcases Nat.lt_trichotomy i pv with hlt | heq | hgt
        · refine .inl ⟨fun hh => ?_, hbef (i + 1) (by omega)⟩
          rcases (hD' pv).1 hh with hh | hh
          · rcases hord i hiL (by omega) with hr | hr
            · exact hnD (hr.closed hclosed hh)
            · have := hdown _ _ hr; omega
          · omega
        · exact .inr ⟨(hD' pv).2 (.inr heq.symm), hbeh (i + 1) (by omega) (by omega)⟩
        · refine .inr ⟨(hD' pv).2 (.inl ?_), hbeh (i + 1) (by omega) (by omega)⟩
          rcases hord i hiL (by omega) with hr | hr
          · have := hdown _ _ hr; omega
          · exact hpreds pv hr
      -- the slots that it looks at
      have hread : ∀ t ∈ o.looksAt ops, ∀ p v, (Sf i)[t]? = some p → a1.tmps[t]? = some v → RV P C1 p v := by
        intro t ht p v g1 g2
        refine c7 t p v ?_ g2
        rw [slotAt_cut i L.length (by omega) fun j hij hjn hd => ?_, slotAt_congr (D' := fun _ => True) i fun j hj hd => ⟨fun _ => trivial, fun _ => ?_⟩, hslots i (by omega)]
        · exact g1
        · -- a writer before
          obtain ⟨q, hq, hqd⟩ := Option.bind_eq_some_iff.1 hd
          rcases (hchk i o hoL).2 j q hq hj with hap | hr
          · exact absurd ht ((Oper.apart_spec hap).1 t hqd)
          · exact hpreds j hr
        · -- a writer behind
          by_cases hji : j = i
          · subst hji; exact hnD
          · obtain ⟨q, hq, hqd⟩ := Option.bind_eq_some_iff.1 hd
            rcases (hchk j q hq).2 i o hoL (by omega) with hap | hr
            · exact absurd ht ((Oper.apart_spec hap).2.2 t hqd)
            · exact hsuccs j hr
      have hopnd : ∀ x ∈ o.op.operands, RV P C1 (ev (Sf i) x) (a1.eval x) := by
        intro x hx
        cases x with
        | tmp t =>
          have ht : t ∈ o.looksAt ops := by
            simp only [Oper.looksAt]
            exact List.mem_append_left _ (List.mem_filterMap.2 ⟨.tmp t, by simpa using hx, rfl⟩)
          show RV P C1 ((Sf i).getD t (.val undef)) (a1.tmps.getD t undef)
          have hl := hlen i (by omega)
          by_cases htl : t < S.length
          · have g1 : (Sf i)[t]? = some ((Sf i)[t]'(by rw [hl]; exact htl)) := List.getElem?_eq_getElem _
            have g2 : a1.tmps[t]? = some (a1.tmps[t]'(by rw [c4]; exact htl)) := Array.getElem?_eq_getElem _
            have := hread t ht _ _ g1 g2
            simpa [List.getD, Array.getD, htl, hl, c4] using this
          · have g1 : (Sf i).getD t (.val undef) = .val undef := by simp [List.getD, List.getElem?_eq_none (show (Sf i).length ≤ t by rw [hl]; exact Nat.le_of_not_lt htl)]
            have g2 : a1.tmps.getD t undef = undef := by simp [Array.getD, c4, htl]
            rw [g1, g2]; exact .val
        | const v => exact .val
        | global g => exact .val
        | func f => exact .fn rfl rfl (fun j c v h => by simp at h) (fun j c v h => by simp at h)
      -- what it leaves
      have hwrite : ∀ (C2 : Ctx) (v : Value), C2.H = Hf (i + 1) → Ext C1 C2 → RH P C2 → RV P C2 (pf i) v →
          wpAnyIn (Fr r) 0 P .any ops Q fuel (listed.setIfInBounds i true) (a1.put o.dst v) C2.w := by
        intro C2 v k1 k2 k3 k4
        refine ih _ _ _ hinv' hcount ⟨C2, rfl, by rw [k1]; exact hnext, c2.trans k2, k3, ?_, ?_, fun t p u g1 g2 => ?_⟩
        · cases o.dst <;> simp [Act.put, c4]
        · cases o.dst <;> exact c5
        · by_cases hdt : o.dst = some t
          · -- its own slot
            have htl : t < S.length := by
              have h9 := (Array.getElem?_eq_some_iff.1 g2).1
              rw [hdt] at h9
              simp only [Act.put, Array.size_setIfInBounds, c4] at h9
              exact h9
            have hself : slotAt L S pf (D (listed.setIfInBounds i true)) L.length t = some (pf i) := by
              rw [slotAt_cut (i + 1) L.length (by omega) fun j hij hjn hd => ?_]
              · simp only [slotAt]
                rw [if_pos ⟨(hD' i).2 (.inr rfl), by simp [hoL, hdt], htl⟩]
              · obtain ⟨q, hq, hqd⟩ := Option.bind_eq_some_iff.1 hd
                intro hDj
                rcases (hD' j).1 hDj with hDj | hji
                · rcases (hchk j q hq).2 i o hoL (by omega) with hap | hr
                  · exact (Oper.apart_spec hap).2.1 t hdt hqd
                  · exact hsuccs j hr hDj
                · omega
            rw [hself] at g1
            cases g1
            rw [hdt] at g2
            simp only [Act.put] at g2
            rw [Array.getElem?_setIfInBounds, if_pos rfl] at g2
            split at g2
            · cases g2; exact k4
            · cases g2
          · -- another's
            have hsame : slotAt L S pf (D (listed.setIfInBounds i true)) L.length t = slotAt L S pf (D listed) L.length t := by
              refine slotAt_congr _ fun j hj hd => ?_
              rw [hD' j]
              refine ⟨fun hh => hh.resolve_right fun e => ?_, fun hh => .inl hh⟩
              subst e
              rw [hoL] at hd
              exact hdt hd
            rw [hsame] at g1
            have g3 : a1.tmps[t]? = some u := by
              cases hod : o.dst with
              | none => rw [hod] at g2; exact g2
              | some d =>
                rw [hod] at g2 hdt
                simp only [Act.put] at g2
                rw [Array.getElem?_setIfInBounds, if_neg (fun e => hdt (by rw [e]))] at g2
                exact g2
            exact (c7 t p u g1 g3).mono k2
      unfold wpOpIn
      simp only [ho]
      obtain ⟨_, hcase⟩ := hone i o hoL
      rcases hcase with ⟨hg, hp, hHe⟩ | ⟨hg, hst⟩
      · have hw := guard_wanted (by rw [c4, hlen i (by omega)]) hread hg
        rw [hw, if_neg (by simp)]
        exact ⟨fun _ _ => trivial, hwrite C1 undef (by rw [hHi, hHe]) (.refl C1) c3 (by rw [hp]; exact .val)⟩
      · have hw := guard_wanted (by rw [c4, hlen i (by omega)]) hread hg
        rw [hw, if_pos rfl]
        rw [Nat.zero_add] at hst
        unfold stepsP at hst
        by_cases hip : i = pv
        · rw [if_pos hip, ← hHi] at hst
          refine stepS_sound hE hX (S := Sf i) c3 (by rw [c2.ro]; exact hro) ⟨by rw [c4, hlen i (by omega)], fun t p v g1 g2 => c7 t p v ?_ g2⟩ hst fun v C' hct => hwrite C' v hct.H hct.ext hct.rh hct.rv
          rw [slotAt_cut i L.length (by omega) fun j hij hjn hd => ?_, slotAt_congr (D' := fun _ => True) i fun j hj hd => ⟨fun _ => trivial, fun _ => ?_⟩, hslots i (by omega)]
          · exact g1
          · rcases hord j (by omega) (by omega) with hr | hr
            · exact hpreds j (by rw [hip]; exact hr)
            · have := hdown _ _ hr; omega
          · by_cases hji : j = i
            · subst hji; exact hnD
            · rcases hord j (by omega) (by omega) with hr | hr
              · have := hdown _ _ hr; omega
              · exact hsuccs j (by rw [hip]; exact hr)
        · rw [if_neg hip] at hst
          obtain ⟨hHe, hst⟩ := stepP_stepE hst
          rw [← hHi] at hst
          exact stepE_sound hE hX c3 c3.ro (List.take_length) (List.take_length) (fun x hx1 hx2 => by omega) hopnd hst fun v C' k1 k2 k3 k4 k5 _ => hwrite C' v (by rw [k1, hHe, hHi]) k2 k3 k4
  refine main ops.size _ _ _ ⟨by simp, fun j oj _ hl => (by rw [getD_replicate_false] at hl; cases hl), fun t h1 h2 => absurd h2 (by omega)⟩ ?_ ?_
  · rw [hsize]
    exact Nat.le_trans List.countP_le_length (by simp)
  · refine ⟨C.dr, rfl, .inl ⟨(fun hj => by simp only [D, getD_replicate_false] at hj; cases hj), hH⟩, dr_ext C, dr_rh hR, hs.1, rfl, fun t p v g1 g2 => ?_⟩
    have : slotAt L S pf (D (Array.replicate ops.size false)) L.length t = S[t]? := by
      rw [slotAt_cut 0 L.length (by omega) fun j _ _ _ hDj => by
        simp only [D, getD_replicate_false] at hDj
        cases hDj]
      rfl
    rw [this] at g1
    exact (hs.2 t p v g1 g2).mono (dr_ext C)

end Go.Hx
/- Hx: a region that draws its order, in which all that turns maps is in order; what is not so looks at no map. -/
namespace Go.Hx

theorem backH_rows {K : List Nat} {H H' : List Row} (h : deadsB K H H' = true) (x : Nat) : rowAt (backH K H H') x = rowAt H x := by
  unfold rowAt
  rw [backH_get]
  cases hx : H[x]? with
  | none => rfl
  | some r =>
    rw [Option.map_some]
    by_cases hk : K.contains x = true
    · rw [if_pos hk]
      have := List.all_eq_true.1 h x (by simpa using hk)
      rw [hx] at this
      cases hx' : H'[x]? with
      | none => rw [hx'] at this; cases this
      | some r' =>
        rw [hx'] at this
        simp only [Bool.and_eq_true, Bool.not_eq_true'] at this
        rw [List.getD_eq_getElem?_getD, hx']
        simp [this.1, this.2]
    · rw [if_neg hk]
theorem rowAt_set_ne {H : List Row} {i x : Nat} {r : Row} (h : x ≠ i) : rowAt (H.set i r) x = rowAt H x := by
  unfold rowAt
  rw [List.getElem?_set_ne (fun e => h e.symm)]
theorem appendQ_out {P : Program} {ro : Nat} {H H' : List Row} {c : Call} {x y p : PV} (h : appendQ P ro H c x y = some (p, H')) : H' = H ∨ (∃ r, H' = H ++ [r]) ∨ ∃ i n len r, x = .sl i n 0 len ∧ H' = H.set i r := by
  unfold appendQ at h
  split at h
  · split at h
    · split at h
      · split at h
        · split at h
          · split at h
            · split at h
              · cases h; exact .inr (.inr ⟨_, _, _, _, rfl, rfl⟩)
              · cases h
            · cases h
          · cases h
        · split at h
          · split at h
            · cases h; exact .inl rfl
            · cases h; exact .inr (.inl ⟨_, rfl⟩)
          · cases h
        · split at h
          · split at h
            · split at h
              · cases h; exact .inl rfl
              · cases h; exact .inr (.inl ⟨_, rfl⟩)
            · cases h
          · cases h
        · cases h
      · cases h
    · cases h
  · cases h
theorem stepC_rows {P : Program} {E : Env} (hE : EnvOK P E) {ex : Ex} {ro h0 : Nat} {K : List Nat} {S : List PV} {H H' : List Row} {o : Oper} {p : PV} (h : stepC P E ex ro h0 K S H o = some (p, H')) : H.length ≤ H'.length ∧ ∀ x, x < H.length → x < h0 → x ∉ K → rowAt H' x = rowAt H x := by
  have out : ∀ i, inW h0 K i = true → ∀ x, x < h0 → x ∉ K → x ≠ i := fun i hi x hx hk e => by
    subst e
    simp only [inW, Bool.or_eq_true, List.contains_eq_mem, decide_eq_true_eq] at hi
    rcases hi with hi | hi
    · exact hk hi
    · omega
  unfold stepC at h
  split at h
  · split at h
    · split at h
      · rename_i hw
        obtain ⟨H2, hs, he⟩ := Option.map_eq_some_iff.1 h
        cases he
        obtain ⟨r, r2, _, rfl, _⟩ := storeQ_rows hs
        exact ⟨by simp, fun x _ hx hk => rowAt_set_ne (out _ hw x hx hk)⟩
      · cases h
    · cases h
  · split at h
    · split at h
      · split at h
        · split at h
          · rename_i hc
            cases h
            simp only [Bool.and_eq_true] at hc
            exact ⟨by rw [backH_length]; exact Nat.le_refl _, fun x _ _ _ => backH_rows hc.2 x⟩
          · cases h
        · cases h
      · cases h
    · split at h
      · cases h
        exact ⟨by simp, fun x hx _ _ => rowAt_append hx⟩
      · split at h
        · split at h
          · rename_i hw
            rcases appendQ_out h with rfl | ⟨r, rfl⟩ | ⟨i, n, len, r, hx, rfl⟩
            · exact ⟨Nat.le_refl _, fun _ _ _ _ => rfl⟩
            · exact ⟨by simp, fun x hx _ _ => rowAt_append hx⟩
            · rw [hx] at hw
              have hw : inW h0 K i = true := hw
              exact ⟨by simp, fun x _ hx hk => rowAt_set_ne (out _ hw x hx hk)⟩
          · cases h
        · split at h
          · rename_i q H2 hq
            split at h
            · rename_i hl
              cases h
              exact ⟨by rw [hl]; exact Nat.le_refl _, fun x _ _ _ => (hE.opr _ _ _ _ _ _ hq).2 x⟩
            · cases h
          · cases h
theorem mask_argM {P : Program} {C : Ctx} {K : List Nat} {p : PV} {V : Value} (hv : RV P C p V) (ho : argM1 K C.H.length p = true) : RV P (C.mask K C.H.length) p V := by
  have hfree : mlt 0 p = true → RV P (C.mask K C.H.length) p V := hv.free (fun b hb => Classical.byContradiction fun hn => mask_ban hn hb) rfl
  cases hv with
  | mp hi hl hb =>
    rename_i i b
    simp only [argM1, Bool.and_eq_true, decide_eq_true_eq] at ho
    obtain ⟨r, info, h1, h2, h3⟩ := hl
    have hin : inK K C.H.length i := ⟨ho.2, ho.1⟩
    refine .mp (by rw [mask_len (Nat.le_refl _)]; exact hi) ⟨r, info, ?_, h2, h3⟩ (by simp [Ctx.mask, hin, hb])
    simp only [Ctx.mask]
    rw [maskH_get, List.getElem?_take, if_pos ho.2, h1, Option.map_some, if_pos ho.1]
  | _ => exact hfree (by simpa [argM1] using ho)
theorem mask_argA {P : Program} {C : Ctx} {K : List Nat} {p : PV} {V : Value} (hv : RV P C p V) (ho : argM K C.H.length p = true) : RV P (C.mask K C.H.length) p V := by
  cases hv with
  | agg hs hh => exact .agg hs fun j c v h1 h2 => mask_argM (hh j c v h1 h2) (List.all_eq_true.1 ho c (List.mem_of_getElem? h1))
  | any => exact mask_argM .any ho
  | val => exact mask_argM .val ho
  | ptr a b c d e => exact mask_argM (.ptr a b c d e) ho
  | lptr a b c d e f => exact mask_argM (.lptr a b c d e f) ho
  | sl a b c d => exact mask_argM (.sl a b c d) ho
  | lst a b c d e f g i j => exact mask_argM (.lst a b c d e f g i j) ho
  | tup a b => exact mask_argM (.tup a b) ho
  | fn a b c d => exact mask_argM (.fn a b c d) ho
  | ifc a => exact mask_argM (.ifc a) ho
  | yld a b c => exact mask_argM (.yld a b c) ho
  | mp a b c => exact mask_argM (.mp a b c) ho
  | gv a b c d => exact mask_argM (.gv a b c d) ho
  | bad a => exact mask_argM (.bad a) ho
theorem stepC_sound {r : Option Nat} {P : Program} {E : Env} (hE : EnvOK P E) {ex : Ex} (hX : ExSound P E ex) {ro h0 : Nat} {K0 : List Nat} {S : List PV} {o : Oper} {p : PV} {H' : List Row} {C : Ctx} {a : Act} (hR : RH P C) (hro : C.ro = ro) (hv : ∀ x ∈ o.op.operands, RV P C (ev S x) (a.eval x))
    (h : stepC P E ex ro h0 K0 S C.H o = some (p, H')) {next : Act → World → Prop} {Q : Exit → Act → World → Prop} (hn : ∀ v C', C'.H = H' → Ext C C' → RH P C' → RV P C' p v → next (a.put o.dst v) C'.w) : o.wpIn (Fr r) 0 P a C.w next Q := by
  unfold stepC at h
  split at h
  · rename_i T xa xv hst
    have hop : o.op = .store T xa xv := by
      unfold stOp at hst
      split at hst
      · rename_i e; cases hst; exact e
      · cases hst
    split at h
    · rename_i i n k j hpa
      split at h
      · obtain ⟨H2, h2, he⟩ := Option.map_eq_some_iff.1 h
        cases he
        subst hro
        have hA := hv xa (by rw [hop]; simp [Op.operands])
        rw [hpa] at hA
        obtain ⟨C', g1, g2, _⟩ := storeQ_sound hR hA (hv xv (by rw [hop]; simp [Op.operands])) h2
        have hrun : (execOp a.eval o).run P C.w = .ok .skip C'.w := by
          unfold execOp
          simp only [hop, Sem.run_bind, g1, Result.andThen_ok, Sem.run_pure]
        exact wp_next hrun (.inr ⟨rfl, rfl⟩) (hn undef C' g2.H g2.ext g2.rh .val)
      · cases h
    · cases h
  split at h
  · rename_i f' args hwc
    split at h
    · rename_i hc
      simp only [Bool.and_eq_true, decide_eq_true_eq] at hc
      obtain ⟨⟨hargs, hroC⟩, hokm⟩ := hc
      split at h
      · rename_i q H2 hcall
        split at h
        · rename_i hc2
          simp only [Bool.and_eq_true] at hc2
          obtain ⟨⟨hpl, hkm⟩, hdd⟩ := hc2
          cases h
          have hle : C.H.length ≤ C.H.length := Nat.le_refl _
          have htk : C.H.take C.H.length = C.H := List.take_length
          have hRm : RH P (C.mask (mpRows args) C.H.length) := mask_rh hR hle (by rw [hro]; exact hroC) (by rw [htk]; exact hokm)
          have hHm : (C.mask (mpRows args) C.H.length).H = maskH (mpRows args) C.H := by simp only [Ctx.mask]; rw [htk]
          unfold wcallQ at hwc
          split at hwc
          case h_2 => cases hwc
          rename_i c hop
          split at hwc
          case h_2 => cases hwc
          rename_i g hcal
          split at hwc
          case h_2 => cases hwc
          rename_i f' first cap hgf
          cases hwc
          have hgm : g ∈ o.op.operands := by rw [hop]; simp [Op.operands, Call.operands, hcal]
          have hgv := hv g hgm
          rw [hgf] at hgv
          generalize hG : a.eval g = G at hgv
          cases hgv with
          | @fn _ _ _ F K q1 q2 q3 q4 =>
            have hcs := args_rv (a := a) (S := S) (xs := c.args) ⟨q1, q3⟩ ⟨q2, q4⟩ (fun x hx => hv x (by rw [hop]; simp [Op.operands, Call.operands, hcal, hx]))
            have hcm : Cs P (C.mask (mpRows (first ++ c.args.toList.map (ev S) ++ cap)) C.H.length) (first ++ c.args.toList.map (ev S) ++ cap) (F ++ c.args.map a.eval ++ K) :=
              ⟨hcs.1, fun j cc v k1 k2 => mask_argA (hcs.2 j cc v k1 k2) (List.all_eq_true.1 hargs cc (List.mem_of_getElem? k1))⟩
            obtain ⟨z1, z2⟩ := callI_sound (ro := ro) hE hX hRm (by show C.ro = ro; exact hro) hcm (by rw [hHm]; exact hcall)
            refine wp_call hop hcal hG z1 z2 fun e w' ⟨V, C', he, hw', hct⟩ => ⟨V, he, ?_⟩
            subst hw'
            have hH2 := hct.H
            have hl2 : C.H.length ≤ C'.H.length := by have := hct.ext.len; rwa [mask_len hle] at this
            refine hn V (C.back C' (mpRows (first ++ c.args.toList.map (ev S) ++ cap)) C.H.length) ?_ (backm_ext hR hle hct.ext) (backm_rh hR hle hct.ext hct.rh (by rw [hH2]; exact hkm)) (hct.rv.plain hpl)
            apply List.ext_getElem?
            intro x
            rw [back_get hle hl2, backH_get, hH2]
            by_cases hxl : x < C.H.length
            · have hx1 : C.H[x]? = some C.H[x] := List.getElem?_eq_getElem hxl
              have hx2 : H2[x]? = some (H2[x]'(by rw [← hH2]; omega)) := List.getElem?_eq_getElem _
              by_cases hk : (mpRows (first ++ c.args.toList.map (ev S) ++ cap)).contains x = true
              · rw [if_pos ⟨hxl, hk⟩, hx1, Option.map_some, if_pos hk, List.getD_eq_getElem?_getD, hx2]; rfl
              · rw [if_neg (fun hh => hk hh.2), hx1, Option.map_some, if_neg hk]
            · rw [if_neg (fun hh => hxl hh.1), List.getElem?_eq_none (by omega)]; rfl
        · cases h
      · cases h
    · cases h
  · split at h
    · rename_i q r1 hq
      cases h
      have hx1 := more_ext hR r1
      have hR1 := more_rh hR r1
      have hlen : (C.more r1).H.length = C.H.length + 1 := by simp [Ctx.more]
      have hlive : r1.live = true := newQ_live hq
      have hrow : (C.more r1).row? C.H.length = some r1 := by
        show rowAt (C.H ++ [r1]) C.H.length = some r1
        unfold rowAt
        simp [hlive]
      obtain ⟨v, C', g1, g2⟩ := newQ_sound (C := C.more r1) (H := C.H) (f := ev S) (g := a.eval) hR1 (by omega) (hR.ρ_none (Nat.le_refl _)) hR.ro hrow (fun x hx => (hv x hx).mono hx1) hq
      exact wp_value g1 (hn v C' (by rw [g2.H]; rfl) (hx1.trans g2.ext) g2.rh g2.rv)
    · split at h
      · rename_i c x y hap
        have hop : o.op = .call c ∧ c.callee = .builtin .append ∧ c.args.toList = [x, y] := by
          unfold apOp at hap
          split at hap
          · rename_i e
            split at hap
            · rename_i e2
              split at hap
              · rename_i e3; cases hap; exact ⟨e, e2, e3⟩
              · cases hap
            · cases hap
          · cases hap
        obtain ⟨hop, hcal, hargs⟩ := hop
        have hca : c.args = #[x, y] := by apply Array.ext'; simpa using hargs
        split at h
        · subst hro
          obtain ⟨v, C', g1, g2, g3, _⟩ := appendQ_sound hR (hv x (by rw [hop]; simp [Op.operands, Call.operands, hca])) (hv y (by rw [hop]; simp [Op.operands, Call.operands, hca])) h o.type
          refine wp_value (v := v) (w' := C'.w) ?_ (hn v C' g2.H g2.ext g2.rh g3)
          unfold execOp
          simp only [hop, resolve, hcal, hca, Sem.run_bind, Sem.run_pure, Result.andThen_ok, invoke, builtin, List.map_toArray, List.map_cons, List.map_nil, g1]
        · cases h
      · split at h
        · rename_i q H2 hq
          split at h
          · cases h
            obtain ⟨n, v, C', g1, gv, g2, g3⟩ := (hE.opr _ _ _ _ _ _ hq).1 C a.eval o rfl hro rfl hR hv
            exact wp_next g1 gv (hn v C' g2.H g2.ext g2.rh g3)
          · cases h
        · cases h

theorem stepC_ent {P : Program} {E : Env} {ex : Ex} {ro h0 : Nat} {K : List Nat} {S : List PV} {H H' : List Row} {o : Oper} {p : PV} (h : stepC P E ex ro h0 K S H o = some (p, H')) (he : isEnt o.op = true) : ∃ T x k, E.opr ro H (ev S) (.mapEntry T x k) = some (p, H') := by
  obtain ⟨dst, op, type, pos, after, guard⟩ := o
  cases op <;> simp only [isEnt, Bool.false_eq_true] at he
  simp only [stepC, stOp, wcallQ, newQ, apOp] at h
  split at h
  · rename_i q H2 hq
    split at h
    · cases h; exact ⟨_, _, _, hq⟩
    · cases h
  · cases h
theorem chain_sound {P : Program} {E : Env} (hE : EnvOK P E) {ex : Ex} (hX : ExSound P E ex) {ro id : Nat} {ops : Array Oper} {S S' : List PV} {H H' : List Row} {W : List (List Nat)} {sf : Bool} (hok : drawOk P ops.toList = true)
    (hpv : chainOk sf (masks ops.toList []) ops.toList = true) (h : opsJ (stepsC sf P E ex ro H.length W (masks ops.toList []) ops.size) ops 0 ops.toList S H = some (S', H')) : WpTo P (.region id ops true) ro S H .normal S' H' := by
  obtain ⟨Sf, Hf, pf, e1, e2, e3, e4, hone⟩ := traceJ ops.toList 0 h
  generalize hL : ops.toList = L at *
  have hget : ∀ j, ops[j]? = L[j]? := fun j => by rw [← hL, Array.getElem?_toList]
  have hsize : ops.size = L.length := by rw [← hL]; simp
  simp only [drawOk, Bool.and_eq_true] at hok
  obtain ⟨⟨hmix, _⟩, hall⟩ := hok
  -- the edges
  have hchk : ∀ (j : Nat) o, L[j]? = some o → (∀ e, e ∈ o.after → Region.binds .any e = true → e.on < j) ∧ ∀ (i : Nat) q, L[i]? = some q → i < j → q.apart ops o = true ∨ Reach L j i := by
    intro j o ho
    have h1 := List.all_eq_true.1 hall (o, j) (by rw [List.mem_zipIdx_iff_getElem?]; simpa using ho)
    simp only [Bool.and_eq_true] at h1
    refine ⟨fun e he hb => ?_, fun i q hq hij => ?_⟩
    · have := Array.all_eq_true_iff_forall_mem.1 h1.1 e he
      simpa [hb] using this
    · have h2 := List.all_eq_true.1 h1.2 (q, i) (by rw [List.mem_zipIdx_iff_getElem?]; simpa using hq)
      simp only [Bool.or_eq_true, Bool.not_eq_true', decide_eq_false_iff_not] at h2
      rcases h2 with (h2 | h2) | h2
      · exact absurd hij h2
      · refine .inl ?_
        have : L.toArray = ops := by rw [← hL]
        rwa [this] at h2
      · exact .inr (masks_reach L [] (by simp) (fun j i hb => by simp at hb) j i h2)
  -- the trace
  have hlen : ∀ j, j ≤ L.length → (Sf j).length = S.length := by
    intro j
    induction j with
    | zero => intro _; rw [e1]
    | succ j ih =>
      intro hj
      have ho : L[j]? = some (L[j]'(by omega)) := List.getElem?_eq_getElem _
      rw [(hone j _ ho).1]
      have := ih (by omega)
      cases (L[j]'(by omega)).dst <;> simp [putS, this]
  -- what turns maps
  let Ch : Nat → Prop := fun j => ∃ o, L[j]? = some o ∧ guardQ ops (Sf j) o = some (true, Sf j) ∧ popQ P (kill (confl W (masks L []) ops.size j) ((Hf j).take H.length)) (ev (Sf j)) o.op = none ∧ (sf && isSoft o.op) = false
  have hstep : ∀ (j : Nat) o, L[j]? = some o → guardQ ops (Sf j) o = some (true, Sf j) → stepsC sf P E ex ro H.length W (masks L []) ops.size j (Sf j) (Hf j) o = some (pf j, Hf (j + 1)) → (popQ P (kill (confl W (masks L []) ops.size j) ((Hf j).take H.length)) (ev (Sf j)) o.op = some (pf j) ∧ Hf (j + 1) = Hf j) ∨ (popQ P (kill (confl W (masks L []) ops.size j) ((Hf j).take H.length)) (ev (Sf j)) o.op = none ∧ chainB o.op = true ∧ (sf && isSoft o.op) = true ∧ E.sft (Hf j) (ev (Sf j)) o.op = some (pf j) ∧ Hf (j + 1) = Hf j) ∨
      (popQ P (kill (confl W (masks L []) ops.size j) ((Hf j).take H.length)) (ev (Sf j)) o.op = none ∧ chainB o.op = true ∧ (sf && isSoft o.op) = false ∧ stepC P E ex ro H.length (W.getD j []) (Sf j) (Hf j) o = some (pf j, Hf (j + 1))) := by
    intro j o _ _ hs
    unfold stepsC at hs
    split at hs
    · rename_i q hq
      obtain ⟨z1, z2⟩ := Prod.mk.inj (Option.some.inj hs)
      exact .inl ⟨by rw [hq, z1], z2.symm⟩
    · rename_i hq
      split at hs
      · rename_i hb
        split at hs
        · rename_i hsf
          obtain ⟨p, hp, he⟩ := Option.map_eq_some_iff.1 hs
          obtain ⟨z1, z2⟩ := Prod.mk.inj he
          exact .inr (.inl ⟨hq, hb, hsf, by rw [hp, z1], z2.symm⟩)
        · rename_i hsf; exact .inr (.inr ⟨hq, hb, by simpa using hsf, hs⟩)
      · cases hs
  have hchb : ∀ j, Ch j → ∃ o, L[j]? = some o ∧ chainB o.op = true := by
    rintro j ⟨o, ho, hg, hq, _⟩
    rcases (hone j o ho).2 with ⟨h1, _, _⟩ | ⟨_, h2⟩
    · rw [hg] at h1; cases h1
    · rw [Nat.zero_add] at h2
      rcases hstep j o ho hg h2 with ⟨h3, _⟩ | ⟨_, h3, _⟩ | ⟨_, h3, _⟩
      · rw [hq] at h3; cases h3
      · exact ⟨o, ho, h3⟩
      · exact ⟨o, ho, h3⟩
  have hchs : ∀ j o, Ch j → L[j]? = some o → (sf && isSoft o.op) = false := by
    rintro j o ⟨o', ho', _, _, h⟩ ho
    rw [ho] at ho'; cases ho'; exact h
  -- two operations that look at maps: in order, or they do not disturb one another
  have hpair : ∀ i j q o, i < j → L[i]? = some q → L[j]? = some o → chainB q.op = true → chainB o.op = true → Reach L j i ∨ softP sf o.op q.op = true := by
    intro i j q o hij hq ho hqb hob
    have h1 := List.all_eq_true.1 hpv (o, j) (by rw [List.mem_zipIdx_iff_getElem?]; simpa using ho)
    simp only [hob, Bool.not_true, Bool.false_or] at h1
    have h2 := List.all_eq_true.1 h1 (q, i) (by rw [List.mem_zipIdx_iff_getElem?]; simpa using hq)
    simp only [hqb, Bool.not_true, Bool.or_false, Bool.or_eq_true, Bool.not_eq_true', decide_eq_false_iff_not] at h2
    rcases h2 with (h2 | h2) | h2
    · exact absurd hij h2
    · exact .inl (masks_reach L [] (by simp) (fun j i hb => by simp at hb) j i h2)
    · exact .inr h2
  have hord : ∀ i j, i < j → Ch i → Ch j → Reach L j i := by
    intro i j hij hi hj
    obtain ⟨q, hq, hqb⟩ := hchb i hi
    obtain ⟨o, ho, hob⟩ := hchb j hj
    rcases hpair i j q o hij hq ho hqb hob with h | h
    · exact h
    · have a1 := hchs i q hi hq
      have a2 := hchs j o hj ho
      unfold softP at h
      cases sf <;> simp_all
  have hdown : ∀ j i, Reach L j i → i < j := by
    intro j i hr
    induction hr with
    | one ho he hb => exact (hchk _ _ ho).1 _ he hb
    | more ho he hb _ ih => have := (hchk _ _ ho).1 _ he hb; omega
  have hkeep : ∀ j, j < L.length → ¬ Ch j → Hf (j + 1) = Hf j := by
    intro j hj hne
    have ho : L[j]? = some (L[j]'hj) := List.getElem?_eq_getElem _
    rcases (hone j _ ho).2 with ⟨_, _, h2⟩ | ⟨hg, h2⟩
    · exact h2
    · rw [Nat.zero_add] at h2
      rcases hstep j _ ho hg h2 with ⟨_, h3⟩ | ⟨_, _, _, _, h3⟩ | ⟨h3, _, h4, _⟩
      · exact h3
      · exact h3
      · exact absurd ⟨_, ho, hg, h3, h4⟩ hne
  have hflat : ∀ d a, a + d ≤ L.length → (∀ j, a ≤ j → j < a + d → ¬ Ch j) → Hf (a + d) = Hf a := by
    intro d
    induction d with
    | zero => intro a _ _; rfl
    | succ d ih => intro a hd hn; rw [← Nat.add_assoc, hkeep (a + d) (by omega) (hn _ (by omega) (by omega)), ih a (by omega) (fun j h1 h2 => hn j h1 (by omega))]
  have hsame : ∀ a b, a ≤ L.length → b ≤ L.length → (∀ j, j < L.length → Ch j → (j < a ↔ j < b)) → Hf a = Hf b := by
    intro a b ha hb hc
    rcases Nat.le_total a b with hab | hab
    · have := hflat (b - a) a (by omega) (fun j h1 h2 hj => by have := hc j (by omega) hj; omega)
      rw [show a + (b - a) = b by omega] at this; exact this.symm
    · have := hflat (a - b) b (by omega) (fun j h1 h2 hj => by have := hc j (by omega) hj; omega)
      rw [show b + (a - b) = a by omega] at this; exact this
  have hrows1 : ∀ j, j < L.length → (Hf j).length ≤ (Hf (j + 1)).length ∧ ∀ x, x < (Hf j).length → x < H.length → (Ch j → x ∉ W.getD j []) → rowAt (Hf (j + 1)) x = rowAt (Hf j) x := by
    intro j hj
    have ho : L[j]? = some (L[j]'hj) := List.getElem?_eq_getElem _
    rcases (hone j _ ho).2 with ⟨_, _, h2⟩ | ⟨hg, h2⟩
    · rw [h2]; exact ⟨Nat.le_refl _, fun _ _ _ _ => rfl⟩
    · rw [Nat.zero_add] at h2
      rcases hstep j _ ho hg h2 with ⟨_, h3⟩ | ⟨_, _, _, _, h3⟩ | ⟨h3, _, hs, h4⟩
      · rw [h3]; exact ⟨Nat.le_refl _, fun _ _ _ _ => rfl⟩
      · rw [h3]; exact ⟨Nat.le_refl _, fun _ _ _ _ => rfl⟩
      · obtain ⟨z1, z2⟩ := stepC_rows hE h4
        exact ⟨z1, fun x h5 h6 h7 => z2 x h5 h6 (h7 ⟨_, ho, hg, h3, hs⟩)⟩
  have hlens : ∀ j, j ≤ L.length → H.length ≤ (Hf j).length := by
    intro j
    induction j with
    | zero => intro _; rw [e2]; exact Nat.le_refl _
    | succ j ih => intro hj; exact Nat.le_trans (ih (by omega)) (hrows1 j (by omega)).1
  have hrng : ∀ d a x, a + d ≤ L.length → x < H.length → (∀ j, a ≤ j → j < a + d → Ch j → x ∉ W.getD j []) → rowAt (Hf (a + d)) x = rowAt (Hf a) x := by
    intro d
    induction d with
    | zero => intro a x _ _ _; rfl
    | succ d ih =>
      intro a x hd hx hn
      have := hlens (a + d) (by omega)
      rw [← Nat.add_assoc, (hrows1 (a + d) (by omega)).2 x (by omega) hx (hn _ (by omega) (by omega)), ih a x (by omega) hx fun j h1 h2 => hn j h1 (by omega)]
  -- entries that are found or made do not disturb what only reads
  have hmove : ∀ d a, a + d ≤ L.length → (∀ j, a ≤ j → j < a + d → Ch j → ∃ o, L[j]? = some o ∧ isEnt o.op = true) → ∀ f op q, E.sft (Hf a) f op = some q ↔ E.sft (Hf (a + d)) f op = some q := by
    intro d
    induction d with
    | zero => intro a _ _ f op q; exact Iff.rfl
    | succ d ih =>
      intro a hd hn f op q
      rw [ih a (by omega) (fun j h1 h2 => hn j h1 (by omega)) f op q, ← Nat.add_assoc]
      have hj : a + d < L.length := by omega
      have ho : L[a + d]? = some (L[a + d]'hj) := List.getElem?_eq_getElem _
      by_cases hc : Ch (a + d)
      · obtain ⟨o, ho', he⟩ := hn (a + d) (by omega) (by omega) hc
        rw [ho] at ho'; cases ho'
        rcases (hone (a + d) _ ho).2 with ⟨h1, _, _⟩ | ⟨hg, h2⟩
        · obtain ⟨o', ho', hg', _⟩ := hc
          rw [ho] at ho'; cases ho'
          rw [hg'] at h1; cases h1
        · rw [Nat.zero_add] at h2
          rcases hstep (a + d) _ ho hg h2 with ⟨_, h3⟩ | ⟨_, _, _, _, h3⟩ | ⟨_, _, _, h3⟩
          · rw [h3]
          · rw [h3]
          · obtain ⟨T, x, k, h4⟩ := stepC_ent h3 he
            exact hE.sftE _ _ _ _ _ _ _ _ h4 f op q
      · rw [hkeep (a + d) hj hc]
  -- what is not in order with an operation writes no row that it sees
  have hsub : ∀ i m, i < L.length → m ≤ L.length → (∀ j, j < L.length → j ≠ i → Ch j → (((masks L []).getD i 0).testBit j = true → j < m) ∧ (((masks L []).getD j 0).testBit i = true → ¬ j < m)) → ¬ Ch i →
      ∀ x r, rowAt (kill (confl W (masks L []) ops.size i) ((Hf i).take H.length)) x = some r → rowAt (Hf m) x = some r := by
    intro i m hi hm hord2 hnc x r hr
    unfold rowAt at hr
    have hk : (kill (confl W (masks L []) ops.size i) ((Hf i).take H.length))[x]? = ((Hf i).take H.length)[x]?.map fun q => if (confl W (masks L []) ops.size i).contains x then deadRow q else q := by
      simp only [kill, List.getElem?_map, List.getElem?_zipIdx, Nat.zero_add, Option.map_map]
      congr 1
      funext q
      simp only [Function.comp]
      cases (confl W (masks L []) ops.size i).contains x <;> rfl
    rw [hk, List.getElem?_take] at hr
    by_cases hx : x < H.length
    · rw [if_pos hx] at hr
      cases hq0 : (Hf i)[x]? with
      | none => rw [hq0] at hr; cases hr
      | some q0 =>
        rw [hq0, Option.map_some] at hr
        by_cases hc : (confl W (masks L []) ops.size i).contains x = true
        · rw [if_pos hc] at hr
          have hd : (deadRow q0).live = false := by unfold deadRow; cases hh : q0.live <;> simp
          simp [hd] at hr
        · rw [if_neg hc] at hr
          have hxK : x ∉ confl W (masks L []) ops.size i := fun hm => hc (by simpa using hm)
          have free : ∀ j, j < L.length → j ≠ i → (((masks L []).getD i 0).testBit j = true → False) → (((masks L []).getD j 0).testBit i = true → False) → x ∉ W.getD j [] := by
            intro j hj hne h1 h2 hxw
            rcases confl_mem (by rw [hsize]; exact hj) hne hxw hxK with h3 | h3
            · exact h1 h3
            · exact h2 h3
          have heq : rowAt (Hf m) x = rowAt (Hf i) x := by
            rcases Nat.le_total m i with hle | hle
            · have := hrng (i - m) m x (by omega) hx fun j h1 h2 hj => by
                refine free j (by omega) (by omega) (fun h3 => ?_) (fun h3 => ?_)
                · have := (hord2 j (by omega) (by omega) hj).1 h3; omega
                · have := hdown _ _ (masks_reach L [] (by simp) (fun j i hb => by simp at hb) j i h3); omega
              rw [show m + (i - m) = i by omega] at this
              exact this.symm
            · have := hrng (m - i) i x (by omega) hx fun j h1 h2 hj => by
                have hne : j ≠ i := fun e => hnc (e ▸ hj)
                refine free j (by omega) hne (fun h3 => ?_) (fun h3 => ?_)
                · have := hdown _ _ (masks_reach L [] (by simp) (fun j i hb => by simp at hb) i j h3); omega
                · exact (hord2 j (by omega) hne hj).2 h3 (by omega)
              rw [show i + (m - i) = m by omega] at this
              exact this
          rw [heq]
          unfold rowAt
          rw [hq0]
          exact hr
    · rw [if_neg hx] at hr; cases hr
  have hslots := slotAt_all (L := L) (S := S) (pf := pf) e1 hlen fun j o ho => (hone j o ho).1
  -- the walk
  intro r C a hH hro hR hs _ Q hQ
  refine wpIn_region_any hmix ?_
  -- the invariant
  let D : Array Bool → Nat → Prop := fun listed j => listed.getD j false = true
  let Inv : Array Bool → Act → World → Prop := fun listed a1 w => ∃ C1 : Ctx, C1.w = w ∧ (∃ m, m ≤ L.length ∧ C1.H = Hf m ∧ ∀ j, j < L.length → Ch j → (D listed j ↔ j < m)) ∧ Ext C C1 ∧ RH P C1 ∧ a1.tmps.size = S.length ∧ a1.defers = a.defers ∧
    (∀ t p v, slotAt L S pf (D listed) L.length t = some p → a1.tmps[t]? = some v → RV P C1 p v)
  have final : ∀ listed a1 w, (∀ j, j < L.length → D listed j) → Inv listed a1 w → Q .normal a1 w := by
    rintro listed a1 w hd ⟨C1, rfl, h1, h2, h3, h4, h5, h7⟩
    have h1 : C1.H = H' := by
      obtain ⟨m, m1, m2, m3⟩ := h1
      rw [m2, ← e4]
      exact hsame m L.length m1 (Nat.le_refl _) fun j hj hc => ⟨fun _ => hj, fun _ => (m3 j hj hc).1 (hd j hj)⟩
    refine hQ a1 C1 (.of_eq h5) h1 h2 h3 ⟨by rw [h4, ← e3, hlen _ (Nat.le_refl _)], fun t p v g1 g2 => h7 t p v ?_ g2⟩
    rw [slotAt_congr (D' := fun _ => True) _ fun j hj _ => ⟨fun _ => trivial, fun _ => hd j hj⟩, hslots _ (Nat.le_refl _), e3]
    exact g1
  have hready : ∀ listed, HeadInv .any ops ops.size listed → Region.ready .any ops listed = [] → ∀ j, j < L.length → D listed j := by
    intro listed hinv hnil j
    induction j using Nat.strongRecOn with
    | _ j ih =>
      intro hj
      by_cases hDj : D listed j
      · exact hDj
      · exfalso
        have ho : L[j]? = some (L[j]'hj) := List.getElem?_eq_getElem _
        have hlj : j < listed.size := by rw [hinv.size, hsize]; exact hj
        have : j ∈ Region.ready .any ops listed := mem_ready.2 ⟨getD_in hlj (by simpa [D] using hDj), L[j]'hj, by rw [hget]; exact ho, fun e he hb => by
          have hlt := (hchk j _ ho).1 e he hb
          exact ih e.on hlt (by omega)⟩
        rw [hnil] at this
        cases this
  have main : ∀ fuel listed a1 w, HeadInv .any ops ops.size listed → (List.range L.length).countP (fun j => !listed.getD j false) ≤ fuel → Inv listed a1 w → wpAnyIn (Fr r) 0 P .any ops Q fuel listed a1 w := by
    intro fuel
    induction fuel with
    | zero =>
      intro listed a1 w hinv hc hI
      have hd : ∀ j, j < L.length → D listed j := by
        intro j hj
        by_cases hDj : D listed j
        · exact hDj
        · exfalso
          have : 0 < (List.range L.length).countP (fun j => !listed.getD j false) := List.countP_pos_iff.2 ⟨j, List.mem_range.2 hj, by simpa [D] using hDj⟩
          omega
      refine ⟨?_, final listed a1 w hd hI⟩
      cases hr : Region.ready .any ops listed with
      | nil => rfl
      | cons x xs =>
        exfalso
        have hx : x ∈ Region.ready .any ops listed := by rw [hr]; simp
        obtain ⟨h1, o, ho, _⟩ := mem_ready.1 hx
        have hxl : x < L.length := by rw [hget] at ho; exact (List.getElem?_eq_some_iff.1 ho).1
        have h9 : listed.getD x false = true := hd x hxl
        rw [getD_both h1] at h9
        cases h9
    | succ fuel ih =>
      intro listed a1 w hinv hc hI
      refine ⟨fun hnil => final listed a1 w (hready listed hinv hnil) hI, fun i hi => ?_⟩
      obtain ⟨h1, o, ho, hedges⟩ := mem_ready.1 hi
      have hoL : L[i]? = some o := by rw [← hget]; exact ho
      have hiL : i < L.length := (List.getElem?_eq_some_iff.1 hoL).1
      have hnD : ¬ D listed i := by show ¬ listed.getD i false = true; rw [getD_both h1]; simp
      have hil : i < listed.size := by rw [hinv.size, hsize]; exact hiL
      have hclosed : ∀ j o e, L[j]? = some o → D listed j → e ∈ o.after → Region.binds .any e = true → D listed e.on := fun j o e hj hDj he hb => hinv.closed j o (by rw [hget]; exact hj) hDj e he hb
      have hpreds : ∀ j, Reach L i j → D listed j := fun j hr => hr.ready hclosed fun o' e ho' he hb => by
        have : o' = o := Option.some.inj (ho'.symm.trans hoL)
        subst this
        exact hedges e he hb
      have hsuccs : ∀ j, Reach L j i → ¬ D listed j := fun j hr hDj => hnD (hr.closed hclosed hDj)
      have hinv' := hinv.set hi (by rw [hsize]; exact hiL)
      have hcount : (List.range L.length).countP (fun j => !(listed.setIfInBounds i true).getD j false) ≤ fuel := by
        have := countP_set (p := fun j => !listed.getD j false) (q := fun j => !(listed.setIfInBounds i true).getD j false) (i := i) (List.nodup_range (n := L.length)) (List.mem_range.2 hiL)
          (by simp only [Bool.not_eq_true']; exact getD_both h1) (by simp [hil]) (fun j hj => by simp only [getD_set_ne false (fun e => hj e.symm)])
        omega
      have hD' : ∀ j, D (listed.setIfInBounds i true) j ↔ D listed j ∨ j = i := by
        intro j
        by_cases hji : j = i
        · subst hji
          simp [D, hil]
        · simp only [D, getD_set_ne false (fun e => hji e.symm), hji, or_false]
      obtain ⟨C1, rfl, c1, c2, c3, c4, c5, c7⟩ := hI
      obtain ⟨m, m1, m2, m3⟩ := c1
      have hCi : Ch i → C1.H = Hf i := fun hci => by
        rw [m2]
        refine hsame m i m1 (by omega) fun j hj hc => ?_
        rw [← m3 j hj hc]
        constructor
        · intro hDj
          rcases Nat.lt_trichotomy j i with h1 | h1 | h1
          · exact h1
          · subst h1; exact absurd hDj hnD
          · exact absurd hDj (hsuccs j (hord i j h1 hci hc))
        · intro hji
          exact hpreds j (hord j i hji hc hci)
      have hnext : Ch i → ∀ j, j < L.length → Ch j → (D (listed.setIfInBounds i true) j ↔ j < i + 1) := fun hci j hj hc => by
        rw [hD' j]
        constructor
        · rintro (h1 | h1)
          · rcases Nat.lt_or_ge j (i + 1) with h2 | h2
            · exact h2
            · exact absurd h1 (hsuccs j (hord i j (by omega) hci hc))
          · omega
        · intro h1
          rcases Nat.lt_or_ge j i with h2 | h2
          · exact .inl (hpreds j (hord j i h2 hc hci))
          · exact .inr (by omega)
      have hstay : ¬ Ch i → ∀ j, j < L.length → Ch j → (D (listed.setIfInBounds i true) j ↔ j < m) := fun hci j hj hc => by
        rw [hD' j, ← m3 j hj hc]
        exact ⟨fun h1 => h1.resolve_right fun e => hci (e ▸ hc), fun h1 => .inl h1⟩
      -- the slots that it looks at
      have hread : ∀ t ∈ o.looksAt ops, ∀ p v, (Sf i)[t]? = some p → a1.tmps[t]? = some v → RV P C1 p v := by
        intro t ht p v g1 g2
        refine c7 t p v ?_ g2
        rw [slotAt_cut i L.length (by omega) fun j hij hjn hd => ?_, slotAt_congr (D' := fun _ => True) i fun j hj hd => ⟨fun _ => trivial, fun _ => ?_⟩, hslots i (by omega)]
        · exact g1
        · -- a writer before
          obtain ⟨q, hq, hqd⟩ := Option.bind_eq_some_iff.1 hd
          rcases (hchk i o hoL).2 j q hq hj with hap | hr
          · exact absurd ht ((Oper.apart_spec hap).1 t hqd)
          · exact hpreds j hr
        · -- a writer behind
          by_cases hji : j = i
          · subst hji; exact hnD
          · obtain ⟨q, hq, hqd⟩ := Option.bind_eq_some_iff.1 hd
            rcases (hchk j q hq).2 i o hoL (by omega) with hap | hr
            · exact absurd ht ((Oper.apart_spec hap).2.2 t hqd)
            · exact hsuccs j hr
      have hopnd : ∀ x ∈ o.op.operands, RV P C1 (ev (Sf i) x) (a1.eval x) := by
        intro x hx
        cases x with
        | tmp t =>
          have ht : t ∈ o.looksAt ops := by
            simp only [Oper.looksAt]
            exact List.mem_append_left _ (List.mem_filterMap.2 ⟨.tmp t, by simpa using hx, rfl⟩)
          show RV P C1 ((Sf i).getD t (.val undef)) (a1.tmps.getD t undef)
          have hl := hlen i (by omega)
          by_cases htl : t < S.length
          · have g1 : (Sf i)[t]? = some ((Sf i)[t]'(by rw [hl]; exact htl)) := List.getElem?_eq_getElem _
            have g2 : a1.tmps[t]? = some (a1.tmps[t]'(by rw [c4]; exact htl)) := Array.getElem?_eq_getElem _
            have := hread t ht _ _ g1 g2
            simpa [List.getD, Array.getD, htl, hl, c4] using this
          · have g1 : (Sf i).getD t (.val undef) = .val undef := by simp [List.getD, List.getElem?_eq_none (show (Sf i).length ≤ t by rw [hl]; exact Nat.le_of_not_lt htl)]
            have g2 : a1.tmps.getD t undef = undef := by simp [Array.getD, c4, htl]
            rw [g1, g2]; exact .val
        | const v => exact .val
        | global g => exact .val
        | func f => exact .fn rfl rfl (fun j c v h => by simp at h) (fun j c v h => by simp at h)
      -- what it leaves
      have hwrite : ∀ (C2 : Ctx) (v : Value), (∃ m, m ≤ L.length ∧ C2.H = Hf m ∧ ∀ j, j < L.length → Ch j → (D (listed.setIfInBounds i true) j ↔ j < m)) → Ext C1 C2 → RH P C2 → RV P C2 (pf i) v →
          wpAnyIn (Fr r) 0 P .any ops Q fuel (listed.setIfInBounds i true) (a1.put o.dst v) C2.w := by
        intro C2 v k1 k2 k3 k4
        refine ih _ _ _ hinv' hcount ⟨C2, rfl, k1, c2.trans k2, k3, ?_, ?_, fun t p u g1 g2 => ?_⟩
        · cases o.dst <;> simp [Act.put, c4]
        · cases o.dst <;> exact c5
        · by_cases hdt : o.dst = some t
          · -- its own slot
            have htl : t < S.length := by
              have h9 := (Array.getElem?_eq_some_iff.1 g2).1
              rw [hdt] at h9
              simp only [Act.put, Array.size_setIfInBounds, c4] at h9
              exact h9
            have hself : slotAt L S pf (D (listed.setIfInBounds i true)) L.length t = some (pf i) := by
              rw [slotAt_cut (i + 1) L.length (by omega) fun j hij hjn hd => ?_]
              · simp only [slotAt]
                rw [if_pos ⟨(hD' i).2 (.inr rfl), by simp [hoL, hdt], htl⟩]
              · obtain ⟨q, hq, hqd⟩ := Option.bind_eq_some_iff.1 hd
                intro hDj
                rcases (hD' j).1 hDj with hDj | hji
                · rcases (hchk j q hq).2 i o hoL (by omega) with hap | hr
                  · exact (Oper.apart_spec hap).2.1 t hdt hqd
                  · exact hsuccs j hr hDj
                · omega
            rw [hself] at g1
            cases g1
            rw [hdt] at g2
            simp only [Act.put] at g2
            rw [Array.getElem?_setIfInBounds, if_pos rfl] at g2
            split at g2
            · cases g2; exact k4
            · cases g2
          · -- another's
            have hsame : slotAt L S pf (D (listed.setIfInBounds i true)) L.length t = slotAt L S pf (D listed) L.length t := by
              refine slotAt_congr _ fun j hj hd => ?_
              rw [hD' j]
              refine ⟨fun hh => hh.resolve_right fun e => ?_, fun hh => .inl hh⟩
              subst e
              rw [hoL] at hd
              exact hdt hd
            rw [hsame] at g1
            have g3 : a1.tmps[t]? = some u := by
              cases hod : o.dst with
              | none => rw [hod] at g2; exact g2
              | some d =>
                rw [hod] at g2 hdt
                simp only [Act.put] at g2
                rw [Array.getElem?_setIfInBounds, if_neg (fun e => hdt (by rw [e]))] at g2
                exact g2
            exact (c7 t p u g1 g3).mono k2
      unfold wpOpIn
      simp only [ho]
      obtain ⟨_, hcase⟩ := hone i o hoL
      rcases hcase with ⟨hg, hp, hHe⟩ | ⟨hg, hst⟩
      · have hw := guard_wanted (by rw [c4, hlen i (by omega)]) hread hg
        rw [hw, if_neg (by simp)]
        have hn : ¬ Ch i := by
          rintro ⟨o', ho', hg', _⟩
          rw [hoL] at ho'; cases ho'
          rw [hg] at hg'; cases hg'
        exact ⟨fun _ _ => trivial, hwrite C1 undef ⟨m, m1, m2, hstay hn⟩ (.refl C1) c3 (by rw [hp]; exact .val)⟩
      · have hw := guard_wanted (by rw [c4, hlen i (by omega)]) hread hg
        rw [hw, if_pos rfl]
        rw [Nat.zero_add] at hst
        rcases hstep i o hoL hg hst with ⟨hq, hHe⟩ | ⟨hq, hb, hsf, hsr, hHe⟩ | ⟨hq, hb, hsf, hc⟩
        · have hn : ¬ Ch i := by
            rintro ⟨o', ho', _, hq', _⟩
            rw [hoL] at ho'; cases ho'
            rw [hq] at hq'; cases hq'
          obtain ⟨v, g1, g2⟩ := popQ_sound (g := a1.eval) c3 (fun x r hx => by
            show rowAt C1.H x = some r
            rw [m2]
            refine hsub i m hiL m1 (fun j hj hne hc => ⟨fun hb => ?_, fun hb hlt => ?_⟩) hn x r hx
            · exact (m3 j hj hc).1 (hpreds j (masks_reach L [] (by simp) (fun j i hb => by simp at hb) i j hb))
            · exact hsuccs j (masks_reach L [] (by simp) (fun j i hb => by simp at hb) j i hb) ((m3 j hj hc).2 hlt)) hopnd hq
          exact wp_value g1 (hwrite C1 v ⟨m, m1, m2, hstay hn⟩ (.refl C1) c3 g2)
        · -- what only reads
          have hn : ¬ Ch i := fun hc => by have := hchs i o hc hoL; rw [hsf] at this; cases this
          have hent : ∀ j, j < L.length → Ch j → ¬ Reach L i j → ¬ Reach L j i → ∃ o', L[j]? = some o' ∧ isEnt o'.op = true := by
            intro j hj hcj n1 n2
            obtain ⟨q, hq', hqb⟩ := hchb j hcj
            have a1 := hchs j q hcj hq'
            refine ⟨q, hq', ?_⟩
            rcases Nat.lt_trichotomy i j with h | h | h
            · rcases hpair i j o q h hoL hq' hb hqb with h3 | h3
              · exact absurd h3 n2
              · unfold softP at h3; cases sf <;> simp_all
            · subst h; exact absurd hcj hn
            · rcases hpair j i q o h hq' hoL hqb hb with h3 | h3
              · exact absurd h3 n1
              · unfold softP at h3; cases sf <;> simp_all
          have hsm : E.sft (Hf m) (ev (Sf i)) o.op = some (pf i) := by
            rcases Nat.le_total m i with hle | hle
            · have := hmove (i - m) m (by omega) (fun j j1 j2 hcj => hent j (by omega) hcj (fun hr => by have := (m3 j (by omega) hcj).1 (hpreds j hr); omega) (fun hr => by have := hdown _ _ hr; omega)) (ev (Sf i)) o.op (pf i)
              rw [show m + (i - m) = i by omega] at this
              exact this.2 hsr
            · have := hmove (m - i) i (by omega) (fun j j1 j2 hcj => hent j (by omega) hcj (fun hr => by have := hdown _ _ hr; omega) (fun hr => hsuccs j hr ((m3 j (by omega) hcj).2 (by omega)))) (ev (Sf i)) o.op (pf i)
              rw [show i + (m - i) = m by omega] at this
              exact this.1 hsr
          obtain ⟨v, g1, g2⟩ := hE.sft _ _ _ _ hsm C1 a1.eval o rfl m2 c3 hopnd
          exact wp_value g1 (hwrite C1 v ⟨m, m1, m2, hstay hn⟩ (.refl C1) c3 g2)
        · have hci : Ch i := ⟨o, hoL, hg, hq, hsf⟩
          rw [← hCi hci] at hc
          refine stepC_sound hE hX c3 (by rw [c2.ro]; exact hro) hopnd hc fun v C' k1 k2 k3 k4 => hwrite C' v ⟨i + 1, by omega, k1, hnext hci⟩ k2 k3 k4
  refine main ops.size _ _ _ ⟨by simp, fun j oj _ hl => (by rw [getD_replicate_false] at hl; cases hl), fun t h1 h2 => absurd h2 (by omega)⟩ ?_ ?_
  · rw [hsize]
    exact Nat.le_trans List.countP_le_length (by simp)
  · refine ⟨C.dr, rfl, ⟨0, by omega, by rw [e2]; exact hH, fun j _ _ => ⟨(fun hj => by simp only [D, getD_replicate_false] at hj; cases hj), fun hj => by omega⟩⟩, dr_ext C, dr_rh hR, hs.1, rfl, fun t p v g1 g2 => ?_⟩
    have : slotAt L S pf (D (Array.replicate ops.size false)) L.length t = S[t]? := by
      rw [slotAt_cut 0 L.length (by omega) fun j _ _ _ hDj => by
        simp only [D, getD_replicate_false] at hDj
        cases hDj]
      rfl
    rw [this] at g1
    exact (hs.2 t p v g1 g2).mono (dr_ext C)

theorem exec_ok {P : Program} {E : Env} (hE : EnvOK P E) (n : Nat) : ExSound P E (exec P E n) :=
  exec_sound hE (fun hX _ _ _ _ _ _ _ hd h => draw_sound hE hX hd h) (fun hX _ _ _ _ _ _ _ _ _ hd h => mix_sound hE hX hd h) (fun hX _ _ _ _ _ _ _ _ hd hp h => pivot_sound hE hX hd hp h) (fun hX _ _ _ _ _ _ _ _ _ hd hp h => chain_sound hE hX hd hp h) n
end Go.Hx
/- Hx: the machine in continuations: what is known only of a value stands as a 'bif' outermost. -/
namespace Go.Hx

inductive DT (α : Type) where
  | leaf (a : α)
  | no
  | br (b : Bool) (x y : DT α)
def DT.run {α : Type} : DT α → Option α
  | .leaf a => some a
  | .no => none
  | .br b x y => bif b then x.run else y.run
def DT.go {α β : Type} (k : α → Option β) : DT α → Option β
  | .leaf a => k a
  | .no => none
  | .br b x y => bif b then x.go k else y.go k
theorem DT.go_some {α β : Type} {k : α → Option β} {r : β} : ∀ {d : DT α}, d.go k = some r → ∃ a, d.run = some a ∧ k a = some r
  | .leaf a, h => ⟨a, rfl, h⟩
  | .no, h => by cases h
  | .br b x y, h => by
    cases b
    · exact DT.go_some (d := y) h
    · exact DT.go_some (d := x) h

structure EnvK where
  ora : FuncId → List PV → Option PV := fun _ _ => none
  live : FuncId → Nat → Option (List Tmp) := fun _ _ => none
  lo : FuncId → Nat → Nat → List PV → List Row → Option (DT (PX × List PV × List Row)) := fun _ _ _ _ _ => none
  keep : FuncId → Bool := fun _ => false
  cal : Nat → FuncId → List PV → List Row → Option (DT (PV × List Row)) := fun _ _ _ _ => none
  nils : FuncId → Nat → List (Tmp × TypeId × Nat) := fun _ _ => []
  pure : FuncId → Bool := fun _ => false
  orD : FuncId → List PV → Option (DT PV) := fun _ _ => none
  drop : FuncId → Nat → Option (Nat × Bool) := fun _ _ => none
  opr : Nat → List Row → (Operand → PV) → Op → Option (DT (PV × List Row)) := fun _ _ _ _ => none
  chain : FuncId → Nat → Bool := fun _ _ => false
  inp : Nat → List Row → (Operand → PV) → Op → Option (PV × List Row) := fun _ _ _ _ => none
  piv : FuncId → Nat → Option Nat := fun _ _ => none
  soft : FuncId → Nat → Bool := fun _ _ => false
  sft : List Row → (Operand → PV) → Op → Option PV := fun _ _ _ => none
def EnvK.env (E : EnvK) : Env where
  ora f a := match E.orD f a with | some d => d.run | none => E.ora f a
  live := E.live
  lo f ro i S H := (E.lo f ro i S H).bind DT.run
  keep := E.keep
  cal ro k args H := (E.cal ro k args H).bind DT.run
  nils := E.nils
  pure := E.pure
  drop := E.drop
  opr ro H f op := (E.opr ro H f op).bind DT.run
  chain := E.chain
  inp := E.inp
  piv := E.piv
  soft := E.soft
  sft := E.sft

section
variable {α : Type}
def need (c : Bool) (k : Option α) : Option α := bif c then k else none
theorem need_some {c : Bool} {k : Option α} {r : α} (h : need c k = some r) : c = true ∧ k = some r := by
  cases c
  · cases h
  · exact ⟨rfl, h⟩
def dflt {β : Type} (o : Option β) (k : β → Option α) : Option α := match o with | some p => k p | none => none
theorem dflt_some {β : Type} {o : Option β} {k : β → Option α} {r : α} (h : dflt o k = some r) : ∃ p, o = some p ∧ k p = some r := by
  cases o with
  | none => cases h
  | some p => exact ⟨p, rfl, h⟩

def binK (P : Program) (op : BinOp) (T : TypeId) (x0 y0 : Operand) (x y : PV) (k : PV → Option α) : Option α :=
  match x, y with
  | .val (.int ka a), .val (.int kb b) =>
    match op with
    | .quo => need (ka == kb && !decide (b = 0)) (k (.val (.int ka (ka.wrap (a.tdiv b)))))
    | .rem => need (ka == kb && !decide (b = 0)) (k (.val (.int ka (a.tmod b))))
    | .shl => need (!decide (b < 0)) (k (.val (.int ka (ka.wrap (a * 2 ^ min b.toNat ka.bits)))))
    | .shr => need (!decide (b < 0)) (k (.val (.int ka (a.fdiv (2 ^ min b.toNat ka.bits)))))
    | op => dflt (binV P op T x0 y0 (.val (.int ka a)) (.val (.int kb b))) k
  | .val (.string a), .val (.string b) =>
    match op with
    | .add => need (!decide (((a.size + b.size : Nat) : Int) > IntKind.i64.max)) (k (.val (.string (a ++ b))))
    | op => dflt (strV op a b) k
  | .lst _ _ es, .val (.slice none 0 0) =>
    match P.underlying T, op with
    | some (.slice _), .eql => need (decide (0 < es.length)) (k (.val (.bool false)))
    | some (.slice _), .neq => need (decide (0 < es.length)) (k (.val (.bool true)))
    | _, _ => none
  | x, y => dflt (binV P op T x0 y0 x y) k
theorem binK_some {P : Program} {op : BinOp} {T : TypeId} {x0 y0 : Operand} {x y : PV} {k : PV → Option α} {r : α} (h : binK P op T x0 y0 x y k = some r) : ∃ p, binV P op T x0 y0 x y = some p ∧ k p = some r := by
  unfold binK at h
  split at h
  · rename_i ka a kb b
    split at h
    · obtain ⟨h1, h2⟩ := need_some h
      simp only [Bool.and_eq_true, beq_iff_eq, Bool.not_eq_true', decide_eq_false_iff_not] at h1
      exact ⟨_, by simp [binV, h1.1, intV, h1.2], h2⟩
    · obtain ⟨h1, h2⟩ := need_some h
      simp only [Bool.and_eq_true, beq_iff_eq, Bool.not_eq_true', decide_eq_false_iff_not] at h1
      exact ⟨_, by simp [binV, h1.1, intV, h1.2], h2⟩
    · obtain ⟨h1, h2⟩ := need_some h
      simp only [Bool.not_eq_true', decide_eq_false_iff_not] at h1
      exact ⟨_, by simp only [binV]; rw [if_neg h1], h2⟩
    · obtain ⟨h1, h2⟩ := need_some h
      simp only [Bool.not_eq_true', decide_eq_false_iff_not] at h1
      exact ⟨_, by simp only [binV]; rw [if_neg h1], h2⟩
    · exact dflt_some h
  · rename_i a b
    split at h
    · obtain ⟨h1, h2⟩ := need_some h
      simp only [Bool.not_eq_true', decide_eq_false_iff_not] at h1
      exact ⟨_, by simp only [binV, strV]; rw [if_neg h1], h2⟩
    · obtain ⟨p, h1, h2⟩ := dflt_some h
      exact ⟨p, by simpa [binV] using h1, h2⟩
  · split at h
    · rename_i hu
      obtain ⟨h1, h2⟩ := need_some h
      exact ⟨_, by simp only [binV, hu]; rw [if_pos (of_decide_eq_true h1)], h2⟩
    · rename_i hu
      obtain ⟨h1, h2⟩ := need_some h
      exact ⟨_, by simp only [binV, hu]; rw [if_pos (of_decide_eq_true h1)], h2⟩
    · cases h
  · exact dflt_some h

def binHK0 (P : Program) (H : List Row) (op : BinOp) (T : TypeId) (x0 y0 : Operand) (x y : PV) (k : PV → Option α) : Option α :=
  match x, y with
  | .sl i n _ _, .val (.slice none 0 0) =>
    match rowAt H i, P.underlying T, op with
    | some r, some (.slice _), .eql => need (r.es.length == n) (bif r.nl then k (.val (.bool true)) else k (.val (.bool false)))
    | some r, some (.slice _), .neq => need (r.es.length == n) (bif r.nl then k (.val (.bool false)) else k (.val (.bool true)))
    | _, _, _ => none
  | x, y => binK P op T x0 y0 x y k
theorem binHK0_some {P : Program} {H : List Row} {op : BinOp} {T : TypeId} {x0 y0 : Operand} {x y : PV} {k : PV → Option α} {r : α} (h : binHK0 P H op T x0 y0 x y k = some r) : ∃ p, binH0 P H op T x0 y0 x y = some p ∧ k p = some r := by
  unfold binHK0 at h
  split at h
  · split at h
    · rename_i r0 _ hr hu
      obtain ⟨h1, h2⟩ := need_some h
      refine ⟨.val (.bool r0.nl), by simp only [binH0, hr, hu]; rw [if_pos (by simpa using h1)], ?_⟩
      cases hn : r0.nl <;> rw [hn] at h2 <;> exact h2
    · rename_i r0 _ hr hu
      obtain ⟨h1, h2⟩ := need_some h
      refine ⟨.val (.bool !r0.nl), by simp only [binH0, hr, hu]; rw [if_pos (by simpa using h1)], ?_⟩
      cases hn : r0.nl <;> rw [hn] at h2 <;> exact h2
    · cases h
  · rename_i hne
    obtain ⟨p, h1, h2⟩ := binK_some h
    refine ⟨p, ?_, h2⟩
    unfold binH0
    split
    · exact absurd rfl (hne _ _ _ _ rfl)
    · exact h1
def binHK (P : Program) (H : List Row) (op : BinOp) (T : TypeId) (x0 y0 : Operand) (x y : PV) (k : PV → Option α) : Option α :=
  match ptrV P H op T x y with
  | some p => k p
  | none => binHK0 P H op T x0 y0 x y k
theorem binHK_some {P : Program} {H : List Row} {op : BinOp} {T : TypeId} {x0 y0 : Operand} {x y : PV} {k : PV → Option α} {r : α} (h : binHK P H op T x0 y0 x y k = some r) : ∃ p, binH P H op T x0 y0 x y = some p ∧ k p = some r := by
  unfold binHK at h
  split at h
  · rename_i q hq; exact ⟨q, by unfold binH; rw [hq], h⟩
  · rename_i hnone
    obtain ⟨p, h1, h2⟩ := binHK0_some h
    exact ⟨p, by unfold binH; rw [hnone]; exact h1, h2⟩

def grabK (P : Program) (t : TypeId) (bv : Bool) (s : Nat) (e : PV) (T : TypeId) (j : Nat) (k : PV → Option α) : Option α :=
  match known P T with
  | true =>
    match isAggT P T with
    | true => need (decide (j + P.cellsOf T ≤ s)) (bif bv then k (.agg ((List.range (P.cellsOf T)).map fun x => pick P t true e (j + x))) else k (.agg ((List.range (P.cellsOf T)).map fun x => pick P t false e (j + x))))
    | false => need (decide (j < s)) (bif bv then k (pick P t true e j) else k (pick P t false e j))
  | false => none
theorem grabK_some {P : Program} {t : TypeId} {bv : Bool} {s : Nat} {e : PV} {T : TypeId} {j : Nat} {k : PV → Option α} {r : α} (h : grabK P t bv s e T j k = some r) : ∃ p, grab P t bv s e T j = some p ∧ k p = some r := by
  unfold grabK at h
  unfold grab
  split at h
  · rename_i hk
    rw [if_pos hk]
    split at h
    · rename_i ha
      obtain ⟨h1, h2⟩ := need_some h
      rw [if_pos ha, if_pos (by simpa using h1)]
      cases bv <;> exact ⟨_, rfl, h2⟩
    · rename_i ha
      obtain ⟨h1, h2⟩ := need_some h
      rw [if_neg (by simp [ha]), if_pos (by simpa using h1)]
      cases bv <;> exact ⟨_, rfl, h2⟩
  · cases h

def loadK (P : Program) (H : List Row) (T : TypeId) (x : PV) (k : PV → Option α) : Option α :=
  match x with
  | .ptr i n m j =>
    match rowAt H i with
    | some r => need (r.es.length == n) (grabK P r.t r.bv r.s (r.es.getD m .any) T j k)
    | none => none
  | .lptr t e j => grabK P t true (P.cellsOf t) e T j k
  | .val v => dflt (loadG P T v) k
  | _ => none
theorem loadK_some {P : Program} {H : List Row} {T : TypeId} {x : PV} {k : PV → Option α} {r : α} (h : loadK P H T x k = some r) : ∃ p, loadQ P H T x = some p ∧ k p = some r := by
  unfold loadK at h
  split at h
  · split at h
    · rename_i hr
      obtain ⟨h1, h2⟩ := need_some h
      obtain ⟨p, h3, h4⟩ := grabK_some h2
      exact ⟨p, by simp only [loadQ, hr]; rw [if_pos (by simpa using h1)]; exact h3, h4⟩
    · cases h
  · exact grabK_some h
  · exact dflt_some h
  · cases h

def fieldAddrK (P : Program) (H : List Row) (T : TypeId) (i : Nat) (x : PV) (k : PV → Option α) : Option α :=
  match P.underlying T with
  | some (.struct fs) =>
    match fs[i]? with
    | some fd => need (known P fd.type && P.cellsOf fd.type != 0 && okPtr H x) (k (addOff fd.offset x))
    | none => none
  | _ => none
theorem fieldAddrK_some {P : Program} {H : List Row} {T : TypeId} {i : Nat} {x : PV} {k : PV → Option α} {r : α} (h : fieldAddrK P H T i x k = some r) : ∃ p, fieldAddrQ P H T i x = some p ∧ k p = some r := by
  unfold fieldAddrK at h
  split at h
  · rename_i fs hu
    split at h
    · rename_i fd hf
      obtain ⟨h1, h2⟩ := need_some h
      exact ⟨_, by simp only [fieldAddrQ, hu, hf]; rw [if_pos h1], h2⟩
    · cases h
  · cases h

def ofK (n : Nat) (z : Int) (k : Nat → Option α) : Option α :=
  match n with
  | 0 => none
  | m + 1 => bif decide (z = (m : Int)) then k m else ofK m z k
theorem ofK_some {z : Int} {k : Nat → Option α} {r : α} : ∀ {n : Nat}, ofK n z k = some r → ∃ m, m < n ∧ z = (m : Int) ∧ k m = some r
  | 0, h => by cases h
  | n + 1, h => by
    unfold ofK at h
    cases hd : decide (z = (n : Int)) with
    | true => rw [hd] at h; exact ⟨n, by omega, by simpa using hd, h⟩
    | false => rw [hd] at h; obtain ⟨m, h1, h2, h3⟩ := ofK_some (n := n) h; exact ⟨m, by omega, h2, h3⟩

def indexAddrK (P : Program) (H : List Row) (T : TypeId) (x ix : PV) (k : PV → Option α) : Option α :=
  match ixOf ix, P.underlying T with
  | some z, some (.array len e) => need (known P e && okPtr H x) (ofK len z fun m => k (addOff (m * P.cellsOf e) x))
  | some z, some (.slice e) =>
    match x with
    | .sl i n m len =>
      match rowAt H i with
      | some r => need (known P e && r.es.length == n && r.s == P.cellsOf e) (need (decide (0 ≤ z) && decide (z < len)) (k (.ptr i n (m + z.toNat) 0)))
      | none => none
    | .lst _ t es => need (known P e && t == e) (need (decide (0 ≤ z) && decide (z < es.length)) (k (.lptr t (es.getD z.toNat .any) 0)))
    | _ => none
  | _, _ => none
theorem indexAddrK_some {P : Program} {H : List Row} {T : TypeId} {x ix : PV} {k : PV → Option α} {r : α} (h : indexAddrK P H T x ix k = some r) : ∃ p, indexAddrQ P H T x ix = some p ∧ k p = some r := by
  unfold indexAddrK at h
  unfold indexAddrQ
  split at h
  · rename_i z len e hz hu
    obtain ⟨h1, h2⟩ := need_some h
    obtain ⟨m, g1, rfl, g3⟩ := ofK_some h2
    refine ⟨_, ?_, g3⟩
    simp only [hz, hu]
    rw [if_pos h1, if_pos ⟨by omega, by omega⟩]
    simp
  · rename_i z e hz hu
    simp only [hz, hu]
    split at h
    · split at h
      · rename_i hr
        obtain ⟨h1, h2⟩ := need_some h
        obtain ⟨h3, h4⟩ := need_some h2
        simp only [Bool.and_eq_true, decide_eq_true_eq] at h3
        simp only [hr]
        exact ⟨_, by rw [if_pos h1, if_pos h3], h4⟩
      · cases h
    · obtain ⟨h1, h2⟩ := need_some h
      obtain ⟨h3, h4⟩ := need_some h2
      simp only [Bool.and_eq_true, decide_eq_true_eq] at h3
      exact ⟨_, by dsimp only; rw [if_pos h1, if_pos h3], h4⟩
    · cases h
  · cases h

def indexK (P : Program) (T : TypeId) (x ix : PV) (k : PV → Option α) : Option α :=
  match ixOf ix, P.underlying T with
  | some z, some (.array len e) => need (x.isAgg && known P e) (ofK len z fun m => dflt (partQ P e x.cells (m * P.cellsOf e)) k)
  | some z, some .string =>
    match x with
    | .val (.string s) => need (decide (0 ≤ z) && decide (z < s.size)) (k (.val (.int .u8 (s.data.getD z.toNat 0).toNat)))
    | _ => none
  | _, _ => none
theorem indexK_some {P : Program} {T : TypeId} {x ix : PV} {k : PV → Option α} {r : α} (h : indexK P T x ix k = some r) : ∃ p, indexQ P T x ix = some p ∧ k p = some r := by
  unfold indexK at h
  unfold indexQ
  split at h
  · rename_i z len e hz hu
    obtain ⟨h1, h2⟩ := need_some h
    obtain ⟨m, g1, rfl, g3⟩ := ofK_some h2
    obtain ⟨p, h3, h4⟩ := dflt_some g3
    refine ⟨p, ?_, h4⟩
    simp only [hz, hu]
    rw [if_pos h1, if_pos ⟨by omega, by omega⟩]
    simpa using h3
  · rename_i z hz hu
    simp only [hz, hu]
    split at h
    · obtain ⟨h3, h4⟩ := need_some h
      simp only [Bool.and_eq_true, decide_eq_true_eq] at h3
      exact ⟨_, by simp only []; rw [if_pos h3], h4⟩
    · cases h
  · cases h

def sliceK (P : Program) (H : List Row) (T : TypeId) (x : PV) (lo hi mx : Option PV) (k : PV → Option α) : Option α :=
  match P.underlying T, x, natIx lo, natIx hi, natIx mx with
  | some .string, .val (.string s), some l, some h, some none =>
    need (decide (0 ≤ l.getD 0) && decide (l.getD 0 ≤ h.getD s.size) && decide (h.getD s.size ≤ s.size)) (k (.val (.string (s.extract (l.getD 0).toNat (h.getD s.size).toNat))))
  | some (.slice e), .lst full t es, some l, some h, some none =>
    need (known P e && t == e) (need (decide (0 ≤ l.getD 0) && decide (l.getD 0 ≤ h.getD es.length) && decide (h.getD es.length ≤ es.length))
      (k (.lst (full && h.isNone) t ((es.take (h.getD es.length).toNat).drop (l.getD 0).toNat))))
  | some (.slice e), .lst _ t es, some l, some (some h), some (some m) =>
    need (known P e && t == e) (need (decide (0 ≤ l.getD 0) && decide (l.getD 0 ≤ h) && decide (h ≤ m) && decide (m ≤ es.length))
      (k (.lst (h == m) t ((es.take h.toNat).drop (l.getD 0).toNat))))
  | some (.slice e), .sl i n m len, some none, some h, some none =>
    match rowAt H i with
    | some r => need (known P e && r.es.length == n && r.s == P.cellsOf e) (need (decide (0 ≤ h.getD len) && decide (h.getD len ≤ len)) (k (.sl i n m (h.getD len).toNat)))
    | none => none
  | some (.slice e), .sl i n m len, some (some l), some h, some none =>
    match rowAt H i with
    | some r => need (known P e && r.es.length == n && r.s == P.cellsOf e)
        (bif decide (0 ≤ l) && decide (l < len) && decide (l ≤ h.getD len) && decide (h.getD len ≤ len) then k (.sl i n (m + l.toNat) (h.getD len - l).toNat) else need (decide (l = len) && decide (h.getD len = len)) (k (.lst false e [])))
    | none => none
  | _, _, _, _, _ => none
theorem sliceK_some {P : Program} {H : List Row} {T : TypeId} {x : PV} {lo hi mx : Option PV} {k : PV → Option α} {r : α} (h : sliceK P H T x lo hi mx k = some r) : ∃ p, sliceQ P H T x lo hi mx = some p ∧ k p = some r := by
  unfold sliceK at h
  split at h
  · rename_i h1 h2 h3 h4
    obtain ⟨g1, g2⟩ := need_some h
    simp only [Bool.and_eq_true, decide_eq_true_eq] at g1
    exact ⟨_, by simp only [sliceQ, h1, h2, h3, h4]; rw [if_pos ⟨g1.1.1, g1.1.2, g1.2⟩], g2⟩
  · rename_i h1 h2 h3 h4
    obtain ⟨g0, g⟩ := need_some h
    obtain ⟨g1, g2⟩ := need_some g
    simp only [Bool.and_eq_true, decide_eq_true_eq] at g1
    exact ⟨_, by simp only [sliceQ, h1, h2, h3, h4]; rw [if_pos g0, if_pos ⟨g1.1.1, g1.1.2, g1.2⟩], g2⟩
  · rename_i h1 h2 h3 h4
    obtain ⟨g0, g⟩ := need_some h
    obtain ⟨g1, g2⟩ := need_some g
    simp only [Bool.and_eq_true, decide_eq_true_eq] at g1
    exact ⟨_, by simp only [sliceQ, h1, h2, h3, h4]; rw [if_pos g0, if_pos ⟨g1.1.1.1, g1.1.1.2, g1.1.2, g1.2⟩], g2⟩
  · rename_i h1 h2 h3 h4
    split at h
    · rename_i hr
      obtain ⟨g0, g⟩ := need_some h
      obtain ⟨g1, g2⟩ := need_some g
      simp only [Bool.and_eq_true, decide_eq_true_eq] at g1
      exact ⟨_, by simp only [sliceQ, h1, h2, h3, h4, hr]; rw [if_pos g0, if_pos ⟨g1.1, g1.2⟩], g2⟩
    · cases h
  · rename_i h1 h2 h3 h4
    split at h
    · rename_i hr
      obtain ⟨g0, g⟩ := need_some h
      cases hc : _ && _ with
      | true =>
        rw [hc, cond_true] at g
        simp only [Bool.and_eq_true, decide_eq_true_eq] at hc
        exact ⟨_, by simp only [sliceQ, h1, h2, h3, h4, hr]; rw [if_pos g0, if_pos ⟨hc.1.1.1, hc.1.1.2, hc.1.2, hc.2⟩], g⟩
      | false =>
        rw [hc, cond_false] at g
        obtain ⟨g1, g2⟩ := need_some g
        simp only [Bool.and_eq_true, decide_eq_true_eq] at g1
        exact ⟨_, by simp only [sliceQ, h1, h2, h3, h4, hr]; rw [if_pos g0, if_neg (by rintro ⟨a, b, c, d⟩; rw [decide_eq_true a, decide_eq_true b, decide_eq_true c, decide_eq_true d] at hc; cases hc), if_pos ⟨g1.1, g1.2⟩], g2⟩
    · cases h
  · cases h

def convHK (P : Program) (H : List Row) (src dst : TypeId) (x : PV) (k : PV → Option α) (other : Option α) : Option α :=
  match x with
  | .sl i n m len =>
    match rowAt H i, P.underlying src, P.underlying dst with
    | some r, some (.slice e), some .string => need (byteK P e && r.t == e && (r.es.length == n) && r.bv) (k (.val (.string (strB ((r.es.drop m).take len)))))
    | _, _, _ => none
  | x => match convH P H src dst x with | some p => k p | none => other
theorem convHK_some {P : Program} {H : List Row} {src dst : TypeId} {x : PV} {k : PV → Option α} {other : Option α} {r : α} (h : convHK P H src dst x k other = some r) :
    (∃ p, convH P H src dst x = some p ∧ k p = some r) ∨ (convH P H src dst x = none ∧ other = some r) := by
  unfold convHK at h
  split at h
  · split at h
    · rename_i hr hs hd
      obtain ⟨h1, h2⟩ := need_some h
      exact .inl ⟨_, by simp only [convH, hr, hs, hd]; rw [if_pos h1], h2⟩
    · cases h
  · split at h
    · rename_i hp; exact .inl ⟨_, hp, h⟩
    · rename_i hp; exact .inr ⟨hp, h⟩
def sdK (H : List Row) (x : PV) (k : PV → Option α) : Option α :=
  match x with
  | .val (.slice none 0 0) => k (.val (.pointer none))
  | .sl i n m len =>
    match rowAt H i with
    | some r => bif r.nl then need (r.es.length == n) (k (.val (.pointer none))) else need ((r.es.length == n) && decide (0 < len)) (k (.ptr i n m 0))
    | none => none
  | _ => none
theorem sdK_some {H : List Row} {x : PV} {k : PV → Option α} {r : α} (h : sdK H x k = some r) : ∃ p, sdQ H x = some p ∧ k p = some r := by
  unfold sdK at h
  split at h
  · exact ⟨_, rfl, h⟩
  · split at h
    · rename_i r0 hr
      cases hn : r0.nl with
      | true =>
        rw [hn] at h
        obtain ⟨h1, h2⟩ := need_some h
        exact ⟨_, by simp only [sdQ, hr, hn]; rw [if_pos (by simpa using h1)], h2⟩
      | false =>
        rw [hn] at h
        obtain ⟨h1, h2⟩ := need_some h
        exact ⟨_, by simp only [sdQ, hr, hn]; rw [if_pos (by simpa using h1)], h2⟩
    · cases h
  · cases h
def popK (P : Program) (H : List Row) (f : Operand → PV) (op : Op) (k : PV → Option α) (other : Option α) : Option α :=
  match op with
  | .load t a => loadK P H t (f a) k
  | .nilCheck x => need (okNil H (f x)) (k (f x))
  | .binOp op t x y _ => binHK P H op t x y (f x) (f y) k
  | .slice t x lo hi mx => match P.underlying t with | some (.array n e) => (match arrQ P n e (f x) (lo.map f) (hi.map f) (mx.map f) with | some p => k p | none => none) | _ => sliceK P H t (f x) (lo.map f) (hi.map f) (mx.map f) k
  | .fieldAddr t x i => fieldAddrK P H t i (f x) k
  | .indexAddr t x ix => indexAddrK P H t (f x) (f ix) k
  | .index t x ix => indexK P t (f x) (f ix) k
  | .convert s d x => match convP P H s d (f x) with | some p => k p | none => convHK P H s d (f x) k other
  | .call ⟨.builtin .unsafeSliceData, ags, _⟩ => match ags.toList with | [x] => sdK H (f x) k | _ => none
  | op => match popQ P H f op with | some p => k p | none => other
theorem popK_some {P : Program} {H : List Row} {f : Operand → PV} {op : Op} {k : PV → Option α} {other : Option α} {r : α} (h : popK P H f op k other = some r) :
    (∃ p, popQ P H f op = some p ∧ k p = some r) ∨ (popQ P H f op = none ∧ other = some r) := by
  unfold popK at h
  split at h
  · exact .inl (loadK_some h)
  · obtain ⟨h1, h2⟩ := need_some h
    exact .inl ⟨_, by simp [popQ, h1], h2⟩
  · exact .inl (binHK_some h)
  · split at h
    · rename_i hu
      split at h
      · rename_i p hp
        exact .inl ⟨p, by simp only [popQ, hu]; exact hp, h⟩
      · cases h
    · rename_i hu
      obtain ⟨p, h1, h2⟩ := sliceK_some h
      refine .inl ⟨p, ?_, h2⟩
      simp only [popQ]
      exact h1
  · exact .inl (fieldAddrK_some h)
  · exact .inl (indexAddrK_some h)
  · exact .inl (indexK_some h)
  · split at h
    · rename_i p hp; exact .inl ⟨p, by simp only [popQ, hp], h⟩
    · rename_i hp
      have := convHK_some h
      simpa only [popQ, hp] using this
  · split at h
    · rename_i x hx
      obtain ⟨p, h1, h2⟩ := sdK_some h
      exact .inl ⟨p, by simp only [popQ, callQ, hx]; exact h1, h2⟩
    · cases h
  · split at h
    · rename_i hp; exact .inl ⟨_, hp, h⟩
    · rename_i hp; exact .inr ⟨hp, h⟩

def rowK (r : Row) (k : Row → Option α) : Option α := bif r.bv then k { r with bv := true } else k { r with bv := false }
theorem rowK_eq (r : Row) (k : Row → Option α) : rowK r k = k r := by
  unfold rowK
  cases r with | mk es s t bv live nl lp => cases bv <;> rfl

def repK (P : Program) (e : TypeId) (z : Value) (n : Nat) (k : Row → Option α) : Option α :=
  match wt P e (.val z) with
  | true => k { es := List.replicate n (.val z), s := P.cellsOf e, t := e, bv := true }
  | false => rowK (mkRow P e (List.replicate n (.val z))) k
theorem repK_eq (P : Program) (e : TypeId) (z : Value) (n : Nat) (k : Row → Option α) : repK P e z n k = k (mkRow P e (List.replicate n (.val z))) := by
  unfold repK
  split
  · rename_i h
    have : (List.replicate n (PV.val z)).all (wt P e) = true := by
      rw [List.all_eq_true]
      intro x hx
      rw [(List.mem_replicate.1 hx).2]; exact h
    unfold mkRow
    rw [this]
  · exact rowK_eq _ _

def newK (P : Program) (H : List Row) (f : Operand → PV) (op : Op) (k : PV → Row → Option α) (other : Option α) : Option α :=
  match op with
  | .box T x => need (okc (f x) && (f x).cells.length == P.cellsOf T) (rowK (mkRow P T [f x]) fun r => k (.ptr H.length 1 0 0) r)
  | .makeSlice T l c =>
    match P.underlying T, f l, f c with
    | some (.slice e), .val (.int _ n), .val (.int _ m) =>
      match zeroQ P e with
      | some z =>
        need (okc (.val z) && known P e && z.cells.size == P.cellsOf e && decide (0 < P.cellsOf e) && decide (0 ≤ n) && decide (n ≤ m) && decide (m ≤ 2 ^ 40) && decide (P.bytesOf e ≤ 256))
          (repK P e z n.toNat fun r => k (.sl H.length n.toNat 0 n.toNat) r)
      | none => none
    | _, _, _ => none
  | op => match newQ P H f op with | some (p, r) => rowK r fun r => k p r | none => other
theorem newK_some {P : Program} {H : List Row} {f : Operand → PV} {op : Op} {k : PV → Row → Option α} {other : Option α} {r : α} (h : newK P H f op k other = some r) :
    (∃ p rw, newQ P H f op = some (p, rw) ∧ k p rw = some r) ∨ (newQ P H f op = none ∧ other = some r) := by
  unfold newK at h
  split at h
  · obtain ⟨h1, h2⟩ := need_some h
    rw [rowK_eq] at h2
    exact .inl ⟨_, _, by simp only [newQ]; rw [if_pos h1], h2⟩
  · split at h
    · rename_i hu hl hc
      split at h
      · rename_i z hz
        obtain ⟨h1, h2⟩ := need_some h
        rw [repK_eq] at h2
        exact .inl ⟨_, _, by simp only [newQ, hu, hl, hc, hz]; rw [if_pos h1], h2⟩
      · cases h
    · cases h
  · split at h
    · rename_i hp; rw [rowK_eq] at h; exact .inl ⟨_, _, hp, h⟩
    · rename_i hp; exact .inr ⟨hp, h⟩

def storeK (P : Program) (ro : Nat) (H : List Row) (T : TypeId) (a x : PV) (k : List Row → Option α) : Option α :=
  match a with
  | .ptr i n m j =>
    match rowAt H i with
    | some r =>
      need (decide (ro ≤ i) && okc x && x.cells.all cellish && r.es.length == n && x.cells.length == P.cellsOf T && known P T && decide (j + x.cells.length ≤ r.s))
        (dflt (setCells P r m j x.cells) fun r2 => rowK r2 fun r3 => k (H.set i r3))
    | none => none
  | _ => none
theorem storeK_some {P : Program} {ro : Nat} {H : List Row} {T : TypeId} {a x : PV} {k : List Row → Option α} {r : α} (h : storeK P ro H T a x k = some r) : ∃ H', storeQ P ro H T a x = some H' ∧ k H' = some r := by
  unfold storeK at h
  split at h
  · split at h
    · rename_i hr
      obtain ⟨h1, h2⟩ := need_some h
      obtain ⟨r2, h3, h4⟩ := dflt_some h2
      rw [rowK_eq] at h4
      exact ⟨_, by simp only [storeQ, hr]; rw [if_pos h1]; simp only [h3], h4⟩
    · cases h
  · cases h

def srcK (H : List Row) (y : PV) (k : Bool → TypeId → List PV → Option α) : Option α :=
  match y with
  | .sl i n m len =>
    match rowAt H i with
    | some r => need (r.es.length == n) (k r.bv r.t ((r.es.drop m).take len))
    | none => none
  | .lst _ t es => k true t es
  | _ => none
theorem srcK_some {H : List Row} {y : PV} {k : Bool → TypeId → List PV → Option α} {r : α} (h : srcK H y k = some r) : ∃ ty t news, srcOf H y = some (ty, t, news) ∧ k ty t news = some r := by
  unfold srcK at h
  split at h
  · split at h
    · rename_i hr
      obtain ⟨h1, h2⟩ := need_some h
      exact ⟨_, _, _, by simp only [srcOf, hr]; rw [if_pos (by simpa using h1)], h2⟩
    · cases h
  · exact ⟨_, _, _, rfl, h⟩
  · cases h

def strK (P : Program) (T : TypeId) (y : PV) (k : Bool → TypeId → List PV → Option α) : Option α :=
  match P.underlying T, y with
  | some (.slice e), .val (.string s) => need (byteT P e) (k true e (bytesL s))
  | _, _ => none
def srcTK (P : Program) (T T2 : TypeId) (H : List Row) (y : PV) (k : Bool → TypeId → List PV → Option α) : Option α :=
  match P.underlying T2 with
  | some (.slice _) => srcK H y k
  | some .string => strK P T y k
  | _ => none
theorem srcTK_some {P : Program} {T T2 : TypeId} {H : List Row} {y : PV} {k : Bool → TypeId → List PV → Option α} {r : α} (h : srcTK P T T2 H y k = some r) : ∃ ty t news, srcT P T T2 H y = some (ty, t, news) ∧ k ty t news = some r := by
  unfold srcTK at h
  unfold srcT
  split at h
  · rename_i hu
    simp only [hu]
    exact srcK_some h
  · rename_i hu
    simp only [hu]
    unfold strK at h
    split at h
    · rename_i h1
      obtain ⟨h2, h3⟩ := need_some h
      exact ⟨_, _, _, by simp only [strSrc, h1]; rw [if_pos h2], h3⟩
    · cases h
  · cases h

def appendK (P : Program) (ro : Nat) (H : List Row) (c : Call) (x y : PV) (k : PV → List Row → Option α) : Option α :=
  match c.argTypes[0]?, c.argTypes[1]? with
  | some T, some T2 =>
    match P.underlying T with
    | some (.slice e) =>
      srcTK P T T2 H y fun ty t news =>
      need (known P e && t == e && (zeroQ P e).any (fun z => z.cells.size == P.cellsOf e) && P.bytesOf e != 0 && (ty || cellishAll news))
        (match x with
        | .sl i n 0 len =>
          match rowAt H i with
          | some r =>
            need (decide (ro ≤ i) && decide (r.es.length = n) && decide (n = len) && decide ((n + news.length) * P.bytesOf e ≤ 140737488355328))
              (need (r.t == e && r.s == P.cellsOf e && !r.fz)
                (rowK { r with es := r.es ++ news, bv := r.bv && ty, nl := r.nl && news.isEmpty } fun r2 => k (.sl i (n + news.length) 0 (n + news.length)) (H.set i r2)))
          | none => none
        | .val (.slice none 0 0) =>
          need (decide (news.length * P.bytesOf e ≤ 140737488355328))
            (bif news.isEmpty then k x H else rowK { es := news, s := P.cellsOf e, t := e, bv := ty } fun r2 => k (.sl H.length news.length 0 news.length) (H ++ [r2]))
        | .lst true t2 es =>
          need (t2 == e) (need (decide ((es.length + news.length) * P.bytesOf e ≤ 140737488355328))
            (bif news.isEmpty then k x H else rowK { es := es ++ news, s := P.cellsOf e, t := e, bv := ty } fun r2 => k (.sl H.length (es.length + news.length) 0 (es.length + news.length)) (H ++ [r2])))
        | _ => none)
    | _ => none
  | _, _ => none
theorem appendK_some {P : Program} {ro : Nat} {H : List Row} {c : Call} {x y : PV} {k : PV → List Row → Option α} {r : α} (h : appendK P ro H c x y k = some r) : ∃ p H', appendQ P ro H c x y = some (p, H') ∧ k p H' = some r := by
  unfold appendK at h
  unfold appendQ
  split at h
  · rename_i T T2 h1 h2
    split at h
    · rename_i e hu
      obtain ⟨ty, t, news, hs, h⟩ := srcTK_some h
      obtain ⟨hc, h⟩ := need_some h
      simp only [h1, h2, hu, hs]
      rw [if_pos hc]
      split at h
      · split at h
        · rename_i hr
          obtain ⟨g1, h⟩ := need_some h
          obtain ⟨g2, h⟩ := need_some h
          simp only [Bool.and_eq_true, decide_eq_true_eq] at g1
          rw [rowK_eq] at h
          simp only [hr]
          exact ⟨_, _, by rw [if_pos ⟨g1.1.1.1, g1.1.1.2, g1.1.2, g1.2⟩, if_pos g2], h⟩
        · cases h
      · obtain ⟨g1, h⟩ := need_some h
        rw [if_pos (by simpa using g1)]
        cases hn : news.isEmpty with
        | true => rw [hn] at h; exact ⟨_, _, by simp, h⟩
        | false => rw [hn] at h; simp only [cond_false, rowK_eq] at h; exact ⟨_, _, rfl, h⟩
      · obtain ⟨g0, h⟩ := need_some h
        obtain ⟨g1, h⟩ := need_some h
        dsimp only
        rw [if_pos g0, if_pos (by simpa using g1)]
        cases hn : news.isEmpty with
        | true => rw [hn] at h; exact ⟨_, _, rfl, h⟩
        | false => rw [hn] at h; simp only [cond_false, rowK_eq] at h; exact ⟨_, _, rfl, h⟩
      · cases h
    · cases h
  · cases h
def moreK (P : Program) (ro : Nat) (H : List Row) (f : Operand → PV) (op : Op) (k : PV → List Row → Option α) : Option α :=
  match op with
  | .call c =>
    match c.callee with
    | .builtin .clear =>
      match c.args.toList, c.argTypes[0]? with
      | [x], some T =>
        match P.underlying T with
        | some (.slice e) =>
          match zeroQ P e with
          | some z =>
            match f x with
            | .sl i n m len =>
              match rowAt H i with
              | some r => need (decide (ro ≤ i) && r.t == e && clearOk P e z && !r.fz && (r.es.length == n)) (bif r.nl then k (.val (.tuple #[])) H else rowK (clearRow P e z r m len) fun r2 => k (.val (.tuple #[])) (H.set i r2))
              | none => none
            | .val (.slice none 0 0) => k (.val (.tuple #[])) H
            | _ => none
          | none => none
        | _ => none
      | _, _ => none
    | .builtin .unsafeString =>
      match c.args.toList, c.argTypes[0]? with
      | [x, y], some T =>
        match P.underlying T with
        | some (.pointer e) =>
          match f x, f y with
          | .ptr i n 0 0, .val (.int .i64 m) =>
            match rowAt H i with
            | some r => need (decide (ro ≤ i) && byteK P e && r.t == e && r.bv && (r.es.length == n) && decide (0 < m) && decide (m ≤ n) && decide (m ≤ 9223372036854775807))
                (rowK { r with fz := true } fun r2 => k (.val (.string (strB ((r.es.drop 0).take m.toNat)))) (H.set i r2))
            | none => none
          | .val (.pointer none), .val (.int .i64 0) => k (.val (.string .empty)) H
          | _, _ => none
        | _ => none
      | _, _ => none
    | _ => none
  | _ => none
theorem moreK_some {P : Program} {ro : Nat} {H : List Row} {f : Operand → PV} {op : Op} {k : PV → List Row → Option α} {r : α} (h : moreK P ro H f op k = some r) : ∃ p H', moreQ P ro H f op = some (p, H') ∧ k p H' = some r := by
  unfold moreK at h
  split at h
  · rename_i c
    split at h
    · rename_i hc
      split at h
      · rename_i x T ha hT
        split at h
        · rename_i e hu
          split at h
          · rename_i z hz
            split at h
            · rename_i i n m len hx
              split at h
              · rename_i rw hr
                obtain ⟨h1, h2⟩ := need_some h
                refine ⟨_, if rw.nl then H else H.set i (clearRow P e z rw m len), by simp only [moreQ, hc, ha, clearQ, hT, hu, hz, hx, hr]; rw [if_pos h1], ?_⟩
                cases hn : rw.nl with
                | true => rw [hn] at h2; exact h2
                | false => rw [hn] at h2; simp only [cond_false] at h2; rw [rowK_eq] at h2; exact h2
              · cases h
            · rename_i hx
              exact ⟨_, _, by simp only [moreQ, hc, ha, clearQ, hT, hu, hz, hx], h⟩
            · cases h
          · cases h
        · cases h
      · cases h
    · rename_i hc
      split at h
      · rename_i x y T ha hT
        split at h
        · rename_i e hu
          split at h
          · rename_i i n m hx hy
            split at h
            · rename_i rw hr
              obtain ⟨h1, h2⟩ := need_some h
              rw [rowK_eq] at h2
              exact ⟨_, _, by simp only [moreQ, hc, ha, usQ, hT, hu, hx, hy, hr]; rw [if_pos h1], h2⟩
            · cases h
          · rename_i hx hy
            exact ⟨_, _, by simp only [moreQ, hc, ha, usQ, hT, hu, hx, hy], h⟩
          · cases h
        · cases h
      · cases h
    · cases h
  · cases h
end
end Go.Hx
/- Hx: the machine in continuations: calls, regions, code; it says no more than the machine. -/
namespace Go.Hx

abbrev ExK (α : Type) := Nat → FuncId → Code → List PV → List Row → (PX → List PV → List Row → Option α) → Option α

section
variable {α : Type}
def resAllK (P : Program) (S : List PV) (H : List Row) : List ResultVar → (List PV → Option α) → Option α
  | [], k => k []
  | .tmp t :: rs, k => resAllK P S H rs fun ps => k (S.getD t (.val undef) :: ps)
  | .cell a t :: rs, k => need (okPtr H (S.getD a (.val undef))) (loadK P H t (S.getD a (.val undef)) fun p => resAllK P S H rs fun ps => k (p :: ps))
theorem resAllK_some {P : Program} {S : List PV} {H : List Row} : ∀ {rs : List ResultVar} {k : List PV → Option α} {r : α}, resAllK P S H rs k = some r → ∃ ps, resAll P S H rs = some ps ∧ k ps = some r
  | [], k, r, h => ⟨[], rfl, h⟩
  | .tmp t :: rs, k, r, h => by
    obtain ⟨ps, h1, h2⟩ := resAllK_some (rs := rs) h
    exact ⟨_, by simp only [resAll, resOne, h1], h2⟩
  | .cell a t :: rs, k, r, h => by
    obtain ⟨g1, g2⟩ := need_some h
    obtain ⟨p, g3, g4⟩ := loadK_some g2
    obtain ⟨ps, h1, h2⟩ := resAllK_some (rs := rs) g4
    exact ⟨_, by simp only [resAll, resOne, h1]; rw [if_pos g1]; simp only [g3], h2⟩
def resK (P : Program) (fn : Func) (S : List PV) (H : List Row) (k : PV → Option α) : Option α :=
  resAllK P S H fn.results.toList fun ps => match ps with | [p] => k p | ps => k (.tup ps)
theorem resK_some {P : Program} {fn : Func} {S : List PV} {H : List Row} {k : PV → Option α} {r : α} (h : resK P fn S H k = some r) : ∃ p, resQ P fn S H = some p ∧ k p = some r := by
  obtain ⟨ps, h1, h2⟩ := resAllK_some h
  unfold resQ
  rw [h1]
  split at h2
  · exact ⟨_, rfl, h2⟩
  · rename_i hne
    refine ⟨.tup ps, ?_, h2⟩
    split
    · rename_i q hq; cases hq; exact absurd rfl (hne _)
    · rename_i hq; cases hq; rfl
    · rename_i hq; cases hq

def callXK (P : Program) (ex : ExK α) (ro : Nat) (f : FuncId) (args : List PV) (H : List Row) (k : PV → List Row → Option α) : Option α :=
  match P.funcs[f]? with
  | some fn =>
    match fn.body with
    | some b =>
      match fn.name == "runtime.NumGoroutine" with
      | true => none
      | false =>
        ex ro f b (args ++ List.replicate (fn.ntmps - args.length) (.val undef)) H fun x S' H' =>
          match x with
          | .exit _ => none
          | _ => resK P fn S' H' fun p => k p H'
    | none => none
  | none => none
def callIK (P : Program) (E : EnvK) (ex : ExK α) (ro : Nat) (f : FuncId) (args : List PV) (H : List Row) (k : PV → List Row → Option α) : Option α :=
  match E.cal ro f args H with
  | some d => d.go fun r => k r.1 r.2
  | none => callXK P ex ro f args H k
def frz0K (H : List Row) (h : Nat) (p : PV) (k : PV → Option α) : Option α :=
  match p with
  | .sl i n m len =>
    bif decide (h ≤ i) then
      match rowAt H i with
      | some r => bif r.bv then need (r.es.length == n) (k (.lst false r.t ((r.es.drop m).take len))) else k (.sl i n m len)
      | none => k (.sl i n m len)
    else k (.sl i n m len)
  | p => k (frz H h p)
theorem frz0K_some {H : List Row} {h : Nat} {p : PV} {k : PV → Option α} {r : α} (g : frz0K H h p k = some r) : k (frz H h p) = some r := by
  unfold frz0K at g
  split at g
  · rename_i i n m len
    rw [frz]
    by_cases hh : h ≤ i
    · rw [if_pos hh]
      rw [decide_eq_true hh, cond_true] at g
      cases hr : rowAt H i with
      | none => rw [hr] at g; exact g
      | some r0 =>
        rw [hr] at g
        dsimp only at g ⊢
        cases hb : r0.bv with
        | true =>
          rw [hb, cond_true] at g
          obtain ⟨g1, g2⟩ := need_some g
          rw [g1]
          exact g2
        | false => rw [hb] at g; exact g
    · rw [if_neg hh]
      rw [decide_eq_false hh, cond_false] at g
      exact g
  · exact g
def frz0sK (H : List Row) (h : Nat) : List PV → (List PV → Option α) → Option α
  | [], k => k []
  | p :: ps, k => frz0K H h p fun q => frz0sK H h ps fun qs => k (q :: qs)
theorem frz0sK_some {H : List Row} {h : Nat} : ∀ {ps : List PV} {k : List PV → Option α} {r : α}, frz0sK H h ps k = some r → k (frzs H h ps) = some r
  | [], k, r, g => by rw [frzs]; exact g
  | p :: ps, k, r, g => by rw [frzs]; exact frz0sK_some (ps := ps) (frz0K_some g)
def frzK (H : List Row) (h : Nat) (p : PV) (k : PV → Option α) : Option α :=
  match p with
  | .agg cs => frz0sK H h cs fun ds => k (.agg ds)
  | p => frz0K H h p k
theorem frzK_some {H : List Row} {h : Nat} {p : PV} {k : PV → Option α} {r : α} (g : frzK H h p k = some r) : k (frz H h p) = some r := by
  unfold frzK at g
  split at g
  · rw [frz]; exact frz0sK_some g
  · exact frz0K_some g
def frzsK (H : List Row) (h : Nat) : List PV → (List PV → Option α) → Option α
  | [], k => k []
  | p :: ps, k => frzK H h p fun q => frzsK H h ps fun qs => k (q :: qs)
theorem frzsK_some {H : List Row} {h : Nat} : ∀ {ps : List PV} {k : List PV → Option α} {r : α}, frzsK H h ps k = some r → k (frzs H h ps) = some r
  | [], k, r, g => by rw [frzs]; exact g
  | p :: ps, k, r, g => by rw [frzs]; exact frzsK_some (ps := ps) (frzK_some g)
def oraK (r : PV) (ags args : List PV) (k : PV → Option α) : Option α :=
  need (mlts 0 ags && mlt 0 r && (plain r || mlts 0 args)) (k r)
def callGK (P : Program) (E : EnvK) (ex : ExK α) (ro : Nat) (f : FuncId) (args : List PV) (H : List Row) (k : PV → List Row → Option α) : Option α :=
  frzsK H 0 args fun ags =>
  match E.orD f ags with
  | some d => d.go fun r => oraK r ags args fun p => k p H
  | none =>
  match E.ora f ags with
  | some r => oraK r ags args fun p => k p H
  | none => callIK P E ex ro f args H fun p H' =>
      bif E.keep f then k p H' else frzK H' H.length p fun q => need (mlt H.length q && rowsOk H.length (H'.take H.length)) (k q (H'.take H.length))
def callEK (P : Program) (E : EnvK) (ex : ExK α) (f : FuncId) (args : List PV) (H : List Row) (k : PV → Option α) : Option α :=
  need (mlts H.length args && rowsOk H.length H)
    (frzsK H 0 args fun ags =>
    match E.orD f ags with
    | some d => d.go fun r => oraK r ags args k
    | none =>
    match E.ora f ags with
    | some r => oraK r ags args k
    | none => callIK P E ex H.length f args H fun p H' => frzK H' H.length p fun q => need (mlt H.length q) (k q))

def Ref (exK : ExK α) (ex : Ex) : Prop := ∀ ro f c S H (k : PX → List PV → List Row → Option α) r, exK ro f c S H k = some r → ∃ x S' H', ex ro f c S H = some (x, S', H') ∧ k x S' H' = some r

theorem callXK_some {P : Program} {exK : ExK α} {ex : Ex} (hr : Ref exK ex) {ro : Nat} {f : FuncId} {args : List PV} {H : List Row} {k : PV → List Row → Option α} {r : α} (h : callXK P exK ro f args H k = some r) :
    ∃ p H', callX P ex ro f args H = some (p, H') ∧ k p H' = some r := by
  unfold callXK at h
  split at h
  · rename_i fn hfn
    split at h
    · rename_i b hb
      split at h
      · cases h
      · rename_i hn
        obtain ⟨x, S', H', h1, h2⟩ := hr _ _ _ _ _ _ _ h
        have : x ≠ .exit (match x with | .exit i => i | _ => 0) ∧ resK P fn S' H' (fun p => k p H') = some r := by
          cases x with
          | exit i => cases h2
          | normal => exact ⟨by simp, h2⟩
          | ret => exact ⟨by simp, h2⟩
        obtain ⟨p, h3, h4⟩ := resK_some this.2
        refine ⟨p, H', ?_, h4⟩
        unfold callX
        simp only [hfn, hb]
        rw [if_neg (by simp [hn]), h1]
        cases x with
        | exit i => cases h2
        | normal => simp only [h3, Option.map_some]
        | ret => simp only [h3, Option.map_some]
    · cases h
  · cases h
theorem callIK_some {P : Program} {E : EnvK} {exK : ExK α} {ex : Ex} (hr : Ref exK ex) {ro : Nat} {f : FuncId} {args : List PV} {H : List Row} {k : PV → List Row → Option α} {r : α} (h : callIK P E exK ro f args H k = some r) :
    ∃ p H', callI P E.env ex ro f args H = some (p, H') ∧ k p H' = some r := by
  unfold callIK at h
  unfold callI EnvK.env
  dsimp only
  split at h
  · rename_i d hd
    obtain ⟨a, h1, h2⟩ := DT.go_some h
    rw [hd]
    simp only [Option.bind_some, h1]
    exact ⟨_, _, rfl, h2⟩
  · rename_i hd
    rw [hd]
    exact callXK_some hr h
theorem oraK_some {E : EnvK} {f : FuncId} {args : List PV} {H : List Row} {p : PV} {k : PV → Option α} {r : α} (ho : E.env.ora f (frzs H 0 args) = some p) (h : oraK p (frzs H 0 args) args k = some r) : callO E.env f args H = some p ∧ k p = some r := by
  obtain ⟨h1, h2⟩ := need_some h
  refine ⟨?_, h2⟩
  unfold callO
  rw [ho]
  dsimp only
  rw [if_pos h1]
theorem ora_of {E : EnvK} {f : FuncId} {a : List PV} {p : PV} (hd : E.orD f a = none) (h : E.ora f a = some p) : E.env.ora f a = some p := by
  show (match E.orD f a with | some d => d.run | none => E.ora f a) = _
  rw [hd]; exact h
theorem ora_orD {E : EnvK} {f : FuncId} {a : List PV} {p : PV} {d : DT PV} (hd : E.orD f a = some d) (h : d.run = some p) : E.env.ora f a = some p := by
  show (match E.orD f a with | some d => d.run | none => E.ora f a) = _
  rw [hd]; exact h
theorem ora_none {E : EnvK} {f : FuncId} {a : List PV} (hd : E.orD f a = none) (h : E.ora f a = none) : E.env.ora f a = none := by
  show (match E.orD f a with | some d => d.run | none => E.ora f a) = _
  rw [hd]; exact h
theorem callGK_some {P : Program} {E : EnvK} {exK : ExK α} {ex : Ex} (hr : Ref exK ex) {ro : Nat} {f : FuncId} {args : List PV} {H : List Row} {k : PV → List Row → Option α} {r : α} (h : callGK P E exK ro f args H k = some r) :
    ∃ p H', callG P E.env ex ro f args H = some (p, H') ∧ k p H' = some r := by
  unfold callGK at h
  replace h := frzsK_some h
  unfold callG
  split at h
  · rename_i d hd
    obtain ⟨p, g1, g2⟩ := DT.go_some h
    obtain ⟨h1, h2⟩ := oraK_some (ora_orD hd g1) g2
    rw [h1]
    exact ⟨_, _, rfl, h2⟩
  rename_i hd
  split at h
  · rename_i p hp
    obtain ⟨h1, h2⟩ := oraK_some (ora_of hd hp) h
    rw [h1]
    exact ⟨_, _, rfl, h2⟩
  · rename_i hn
    have : callO E.env f args H = none := by
      unfold callO
      rw [ora_none hd hn]
    rw [this]
    obtain ⟨p, H', h1, h2⟩ := callIK_some hr h
    simp only [h1]
    show ∃ q H2, (if E.keep f = true then some (p, H') else some (settle H.length p H')) = some (q, H2) ∧ _
    cases hk : E.keep f with
    | true => rw [hk] at h2; exact ⟨_, _, rfl, h2⟩
    | false =>
      rw [hk, cond_false] at h2
      obtain ⟨g1, g2⟩ := need_some (frzK_some h2)
      refine ⟨_, _, by rw [if_neg (by simp)]; simp only [settle]; rw [if_pos g1], g2⟩
theorem callEK_some {P : Program} {E : EnvK} {exK : ExK α} {ex : Ex} (hr : Ref exK ex) {f : FuncId} {args : List PV} {H : List Row} {k : PV → Option α} {r : α} (h : callEK P E exK f args H k = some r) :
    ∃ p, callE P E.env ex f args H = some p ∧ k p = some r := by
  obtain ⟨h0, h⟩ := need_some h
  replace h := frzsK_some h
  unfold callE
  rw [if_pos h0]
  split at h
  · rename_i d hd
    obtain ⟨p, g1, g2⟩ := DT.go_some h
    obtain ⟨h1, h2⟩ := oraK_some (ora_orD hd g1) g2
    rw [h1]
    exact ⟨_, rfl, h2⟩
  rename_i hd
  split at h
  · rename_i p hp
    obtain ⟨h1, h2⟩ := oraK_some (ora_of hd hp) h
    rw [h1]
    exact ⟨_, rfl, h2⟩
  · rename_i hn
    have : callO E.env f args H = none := by
      unfold callO
      rw [ora_none hd hn]
    rw [this]
    obtain ⟨p, H', h1, h2⟩ := callIK_some hr h
    obtain ⟨g1, g2⟩ := need_some (frzK_some h2)
    simp only [h1]
    exact ⟨_, by rw [if_pos g1], g2⟩

def yieldK (ex : ExK α) (ro i : Nat) (args : List PV) (H : List Row) (k : PV → List Row → Option α) : Option α :=
  match loopAt H i with
  | some ⟨kk, .ready⟩ =>
    need (decide (ro ≤ i) && args.length == kk.ps.size)
      (ex ro kk.f kk.asg (setPs kk.S0 kk.ps.toList args) H fun x S1 H1 =>
        match x with
        | .normal =>
          match loopAt H1 i, setSt H1 i .busy with
          | some ⟨_, .ready⟩, some H2 =>
            ex ro kk.f kk.body S1 H2 fun x _ H3 =>
              match x with
              | .normal => dflt (setSt H3 i .ready) fun H4 => k (.val (.bool true)) H4
              | .exit id => dflt (setSt H3 i (.done (.exit id))) fun H4 => k (.val (.bool false)) H4
              | .ret => dflt (setSt H3 i (.done .ret)) fun H4 => k (.val (.bool false)) H4
          | _, _ => none
        | _ => none)
  | _ => none
theorem yieldK_some {exK : ExK α} {ex : Ex} (hr : Ref exK ex) {ro i : Nat} {args : List PV} {H : List Row} {k : PV → List Row → Option α} {r : α} (h : yieldK exK ro i args H k = some r) :
    ∃ b H', yieldQ ex ro i args H = some (b, H') ∧ k (.val (.bool b)) H' = some r := by
  unfold yieldK at h
  unfold yieldQ
  split at h
  · rename_i kk hk
    rw [hk]
    obtain ⟨h1, h2⟩ := need_some h
    dsimp only
    rw [if_pos h1]
    obtain ⟨x, S1, H1, h3, h4⟩ := hr _ _ _ _ _ _ _ h2
    rw [h3]
    split at h4
    · dsimp only
      split at h4
      · rename_i H2 hl hs
        rw [hl, hs]
        obtain ⟨x, S3, H3, h5, h6⟩ := hr _ _ _ _ _ _ _ h4
        dsimp only
        rw [h5]
        cases x with
        | normal =>
          obtain ⟨H4, h7, h8⟩ := dflt_some h6
          simp only [jumpOf, h7, Option.map_some]
          exact ⟨_, _, rfl, h8⟩
        | exit id =>
          obtain ⟨H4, h7, h8⟩ := dflt_some h6
          simp only [jumpOf, h7, Option.map_some]
          exact ⟨_, _, rfl, h8⟩
        | ret =>
          obtain ⟨H4, h7, h8⟩ := dflt_some h6
          simp only [jumpOf, h7, Option.map_some]
          exact ⟨_, _, rfl, h8⟩
      · cases h4
    · cases h4
  · cases h
def overK (S : List PV) (i : Nat) (H : List Row) (k : PX → List PV → List Row → Option α) : Option α :=
  match loopAt H i, setSt H i .over with
  | some ⟨_, .ready⟩, some H' => k .normal S H'
  | some ⟨_, .done .ret⟩, some H' => k .ret S H'
  | some ⟨_, .done (.exit id)⟩, some H' => k (.exit id) S H'
  | _, _ => none
theorem overK_some {S : List PV} {i : Nat} {H : List Row} {k : PX → List PV → List Row → Option α} {r : α} (h : overK S i H k = some r) : ∃ x S' H', overQ S i H = some (x, S', H') ∧ k x S' H' = some r := by
  unfold overK at h
  unfold overQ
  split at h
  · rename_i h1 h2; rw [h1, h2]; exact ⟨_, _, _, rfl, h⟩
  · rename_i h1 h2; rw [h1, h2]; exact ⟨_, _, _, rfl, h⟩
  · rename_i h1 h2; rw [h1, h2]; exact ⟨_, _, _, rfl, h⟩
  · cases h

def moreEK (P : Program) (E : EnvK) (ro : Nat) (H : List Row) (f : Operand → PV) (op : Op) (k : PV → List Row → Option α) : Option α :=
  match E.opr ro H f op with
  | some d => d.go fun r => k r.1 r.2
  | none => moreK P ro H f op k
theorem moreEK_some {P : Program} {E : EnvK} {ro : Nat} {H : List Row} {f : Operand → PV} {op : Op} {k : PV → List Row → Option α} {r : α} (h : moreEK P E ro H f op k = some r) : ∃ p H', moreE P E.env ro H f op = some (p, H') ∧ k p H' = some r := by
  unfold moreEK at h
  unfold moreE
  split at h
  · rename_i d hd
    obtain ⟨x, h1, h2⟩ := DT.go_some h
    refine ⟨x.1, x.2, ?_, h2⟩
    show (match (E.opr ro H f op).bind DT.run with | some r => some r | none => moreQ P ro H f op) = _
    rw [hd]; simp only [Option.bind_some, h1]
  · rename_i hd
    obtain ⟨p, H', h1, h2⟩ := moreK_some h
    refine ⟨p, H', ?_, h2⟩
    show (match (E.opr ro H f op).bind DT.run with | some r => some r | none => moreQ P ro H f op) = _
    rw [hd]; exact h1
def stepK (P : Program) (E : EnvK) (ex : ExK α) (ro : Nat) (S : List PV) (H : List Row) (o : Oper) (k : PV → List Row → Option α) : Option α :=
  match inpE E.inp ro H (ev S) o.op with
  | some r => k r.1 r.2
  | none =>
  popK P H (ev S) o.op (fun p => k p H) (newK P H (ev S) o.op (fun p r => k p (H ++ [r]))
    (match o.op with
      | .store T a x => storeK P ro H T (ev S a) (ev S x) fun H' => k (.val undef) H'
      | .call c =>
        match c.callee with
        | .builtin .append => match c.args.toList with | [x, y] => appendK P ro H c (ev S x) (ev S y) k | _ => none
        | .value g => match ev S g with | .fn (.func f) first cap => callGK P E ex ro f (first ++ c.args.toList.map (ev S) ++ cap) H k | .yld i => yieldK ex ro i (c.args.toList.map (ev S)) H k | _ => none
        | _ => moreEK P E ro H (ev S) o.op k
      | _ => moreEK P E ro H (ev S) o.op k))
theorem stepK_some {P : Program} {E : EnvK} {exK : ExK α} {ex : Ex} (hr : Ref exK ex) {ro : Nat} {S : List PV} {H : List Row} {o : Oper} {k : PV → List Row → Option α} {r : α} (h : stepK P E exK ro S H o k = some r) :
    ∃ p H', stepS P E.env ex ro S H o = some (p, H') ∧ k p H' = some r := by
  unfold stepK at h
  unfold stepS
  split at h
  · rename_i r0 hr0
    have hr0' : inpE E.env.inp ro H (ev S) o.op = some r0 := hr0
    rw [hr0']; exact ⟨r0.1, r0.2, rfl, h⟩
  rename_i hr0
  have hr0' : inpE E.env.inp ro H (ev S) o.op = none := hr0
  rw [hr0']
  dsimp only
  rcases popK_some h with ⟨p, h1, h2⟩ | ⟨h1, h⟩
  · exact ⟨p, H, by rw [h1], h2⟩
  · rw [h1]
    rcases newK_some h with ⟨p, rw', h3, h4⟩ | ⟨h3, h⟩
    · exact ⟨p, _, by rw [h3], h4⟩
    · rw [h3]
      dsimp only
      split at h
      · rename_i hop
        simp only [hop]
        obtain ⟨H', h5, h6⟩ := storeK_some h
        exact ⟨_, _, by rw [h5]; rfl, h6⟩
      · rename_i c hop
        simp only [hop]
        split at h
        · rename_i hc
          simp only [hc]
          split at h
          · rename_i x y ha
            simp only [ha]
            exact appendK_some h
          · cases h
        · rename_i g hc
          simp only [hc]
          split at h
          · rename_i f first cap hg
            simp only [hg]
            exact callGK_some hr h
          · rename_i i hg
            simp only [hg]
            obtain ⟨b, H', h5, h6⟩ := yieldK_some hr h
            exact ⟨_, _, by rw [h5]; rfl, h6⟩
          · cases h
        · obtain ⟨p, H', h5, h6⟩ := moreEK_some h
          refine ⟨p, H', ?_, h6⟩
          split
          · rename_i hc; exact absurd hc (by assumption)
          · rename_i hc; exact ((by assumption : ∀ f, c.callee = .value f → False) _ hc).elim
          · rw [← hop]; exact h5
      · obtain ⟨p, H', h5, h6⟩ := moreEK_some h
        refine ⟨p, H', ?_, h6⟩
        split
        · rename_i hc; exact ((by assumption : ∀ T a x, o.op = .store T a x → False) _ _ _ hc).elim
        · rename_i hc; exact ((by assumption : ∀ c, o.op = .call c → False) _ hc).elim
        · exact h5

def stepEK (P : Program) (E : EnvK) (ex : ExK α) (S : List PV) (H : List Row) (o : Oper) (k : PV → List Row → Option α) : Option α :=
  popK P H (ev S) o.op (fun p => k p H) (newK P H (ev S) o.op (fun p r => k p (H ++ [r]))
    (match o.op with
      | .call c =>
        match c.callee with
        | .value g => match ev S g with | .fn (.func f) first cap => callEK P E ex f (first ++ c.args.toList.map (ev S) ++ cap) H fun p => k p H | _ => none
        | _ => none
      | _ => none))
theorem stepEK_some {P : Program} {E : EnvK} {exK : ExK α} {ex : Ex} (hr : Ref exK ex) {S : List PV} {H : List Row} {o : Oper} {k : PV → List Row → Option α} {r : α} (h : stepEK P E exK S H o k = some r) :
    ∃ p H', stepE P E.env ex S H o = some (p, H') ∧ k p H' = some r := by
  unfold stepEK at h
  unfold stepE
  rcases popK_some h with ⟨p, h1, h2⟩ | ⟨h1, h⟩
  · exact ⟨p, H, by rw [h1], h2⟩
  · rw [h1]
    rcases newK_some h with ⟨p, rw', h3, h4⟩ | ⟨h3, h⟩
    · exact ⟨p, _, by rw [h3], h4⟩
    · rw [h3]
      dsimp only
      split at h
      · rename_i c hop
        simp only [hop]
        split at h
        · rename_i g hc
          simp only [hc]
          split at h
          · rename_i f first cap hg
            simp only [hg]
            obtain ⟨p, h5, h6⟩ := callEK_some hr h
            exact ⟨p, H, by rw [h5]; rfl, h6⟩
          · cases h
        · cases h
      · cases h

def guardK (ops : Array Oper) (S : List PV) (o : Oper) (k : Bool → List PV → Option α) : Option α :=
  match o.guard with
  | none => k true S
  | some (j, want) =>
    match (ops[j]?).bind (·.dst) with
    | none => k false S
    | some d =>
      match S[d]? with
      | none => k false S
      | some (.val (.bool t)) => bif t then k want (S.set d (.val (.bool true))) else k (!want) (S.set d (.val (.bool false)))
      | some (.val _) => k false S
      | some _ => none
theorem guardK_some {ops : Array Oper} {S : List PV} {o : Oper} {k : Bool → List PV → Option α} {r : α} (h : guardK ops S o k = some r) : ∃ b S1, guardQ ops S o = some (b, S1) ∧ k b S1 = some r := by
  unfold guardK at h
  unfold guardQ
  split at h
  · rename_i hg; rw [hg]; exact ⟨_, _, rfl, h⟩
  · rename_i j want hg
    rw [hg]
    dsimp only
    split at h
    · rename_i hd; rw [hd]; exact ⟨_, _, rfl, h⟩
    · rename_i d hd
      rw [hd]
      dsimp only
      split at h
      · rename_i hs; rw [hs]; exact ⟨_, _, rfl, h⟩
      · rename_i t hs
        rw [hs]
        cases t
        · exact ⟨_, _, rfl, h⟩
        · exact ⟨_, _, rfl, h⟩
      · rename_i v hv hs
        rw [hs]
        refine ⟨false, S, ?_, h⟩
        cases v <;> first | rfl | exact absurd rfl (hv _)
      · cases h

def opsK (step : List PV → List Row → Oper → (PV → List Row → Option α) → Option α) (ops : Array Oper) : List Oper → List PV → List Row → (List PV → List Row → Option α) → Option α
  | [], S, H, k => k S H
  | o :: os, S, H, k => guardK ops S o fun w S1 =>
    match w with
    | true => step S1 H o fun p H1 => opsK step ops os (putS S1 o.dst p) H1 k
    | false => opsK step ops os (putS S1 o.dst (.val undef)) H k
theorem opsK_some {stK : List PV → List Row → Oper → (PV → List Row → Option α) → Option α} {st : List PV → List Row → Oper → Option (PV × List Row)}
    (hst : ∀ S H o k r, stK S H o k = some r → ∃ p H', st S H o = some (p, H') ∧ k p H' = some r) {ops : Array Oper} :
    ∀ {os : List Oper} {S : List PV} {H : List Row} {k : List PV → List Row → Option α} {r : α}, opsK stK ops os S H k = some r → ∃ S' H', opsQ st ops os S H = some (S', H') ∧ k S' H' = some r
  | [], S, H, k, r, h => ⟨S, H, rfl, h⟩
  | o :: os, S, H, k, r, h => by
    obtain ⟨w, S1, h1, h2⟩ := guardK_some h
    simp only [opsQ, h1]
    cases w with
    | true =>
      obtain ⟨p, H1, h3, h4⟩ := hst _ _ _ _ _ h2
      simp only [h3]
      exact opsK_some hst (os := os) h4
    | false => exact opsK_some hst (os := os) h2

def stepXK (P : Program) (E : EnvK) (ex : ExK α) (K : List Nat) (S : List PV) (H : List Row) (o : Oper) (k : PV → List Row → Option α) : Option α :=
  match K with
  | [] => stepEK P E ex S H o k
  | x :: K => popK P (kill (x :: K) H) (ev S) o.op (fun p => k p H) (newK P H (ev S) o.op (fun p r => k p (H ++ [r])) none)
theorem stepXK_some {P : Program} {E : EnvK} {exK : ExK α} {ex : Ex} (hr : Ref exK ex) {K : List Nat} {S : List PV} {H : List Row} {o : Oper} {k : PV → List Row → Option α} {r : α} (h : stepXK P E exK K S H o k = some r) :
    ∃ p H', stepX P E.env ex K S H o = some (p, H') ∧ k p H' = some r := by
  cases K with
  | nil => exact stepEK_some hr h
  | cons x K =>
    unfold stepXK at h
    unfold stepX
    rcases popK_some h with ⟨p, h1, h2⟩ | ⟨h1, h⟩
    · exact ⟨p, H, by simp only [h1], h2⟩
    · rcases newK_some h with ⟨p, rw', h3, h4⟩ | ⟨h3, h⟩
      · exact ⟨p, _, by simp only [h1, h3]; rfl, h4⟩
      · cases h
def stepMEK (P : Program) (E : EnvK) (ex : ExK α) (W R K : List Nat) (S : List PV) (H : List Row) (o : Oper) (k : PV → List Row → Option α) : Option α :=
  stepXK P E ex K S (poison R H) o fun p H1 =>
    match H1.drop H.length with
    | [] => k p H
    | [r] => need (W.contains H.length && !R.contains H.length) (k p (H ++ [r]))
    | _ => none
theorem stepMEK_some {P : Program} {E : EnvK} {exK : ExK α} {ex : Ex} (hr : Ref exK ex) {W R K : List Nat} {S : List PV} {H : List Row} {o : Oper} {k : PV → List Row → Option α} {r : α} (h : stepMEK P E exK W R K S H o k = some r) :
    ∃ p H', stepME P E.env ex W R K S H o = some (p, H') ∧ k p H' = some r := by
  obtain ⟨p, H1, h1, h2⟩ := stepXK_some hr h
  unfold stepME
  rw [h1]
  dsimp only
  split at h2
  · rename_i hd; rw [hd]; exact ⟨_, _, rfl, h2⟩
  · rename_i hd
    rw [hd]
    obtain ⟨h3, h4⟩ := need_some h2
    dsimp only
    rw [if_pos h3]
    exact ⟨_, _, rfl, h4⟩
  · cases h2
def stepMK (P : Program) (E : EnvK) (ex : ExK α) (ro : Nat) (W R K G : List Nat) (S : List PV) (H : List Row) (o : Oper) (k : PV → List Row → Option α) : Option α :=
  match o.op with
  | .store T a x =>
    match ev S a with
    | .ptr i n q j => need (W.contains i && !R.contains i) (storeK P ro H T (.ptr i n q j) (ev S x) fun H' => k (.val undef) H')
    | _ => none
  | _ =>
    match wcallQ S o.op with
    | some (f, args) =>
      match wRows E.pure f args with
      | [] => stepMEK P E ex W R K S H o k
      | K =>
        need (K.all (fun x => W.contains x && !R.contains x) && args.all (argOk H.length) && decide (ro ≤ H.length) && rowsOk 0 (maskH K H))
          (callIK P E ex ro f args (maskH K H) fun p H' => need (plain p && rowsOk 0 (maskH K (H'.take H.length)) && shpsB K H H') (k p (backH K H H')))
    | none =>
      match growQ S o.op with
      | some (c, i, x, y) => need (W.contains i && !R.contains i && G.contains i && srcFree R y) (appendK P ro H c x y k)
      | none => stepMEK P E ex W R K S H o k
theorem stepMK_some {P : Program} {E : EnvK} {exK : ExK α} {ex : Ex} (hr : Ref exK ex) {ro : Nat} {W R K G : List Nat} {S : List PV} {H : List Row} {o : Oper} {k : PV → List Row → Option α} {r : α} (h : stepMK P E exK ro W R K G S H o k = some r) :
    ∃ p H', stepM P E.env ex ro W R K G S H o = some (p, H') ∧ k p H' = some r := by
  unfold stepMK at h
  unfold stepM
  split at h
  · rename_i hop
    simp only [hop]
    split at h
    · rename_i ha
      simp only [ha]
      obtain ⟨h1, h2⟩ := need_some h
      rw [if_pos h1]
      obtain ⟨H', h3, h4⟩ := storeK_some h2
      exact ⟨_, _, by rw [h3]; rfl, h4⟩
    · cases h
  · rename_i hno
    have key : (∃ p H', (match wcallQ S o.op with
        | some (f, args) =>
          match wRows E.pure f args with
          | [] => stepME P E.env ex W R K S H o
          | K =>
            if K.all (fun x => W.contains x && !R.contains x) && args.all (argOk H.length) && decide (ro ≤ H.length) && rowsOk 0 (maskH K H) then
              match callI P E.env ex ro f args (maskH K H) with
              | some (p, H') => if plain p && rowsOk 0 (maskH K (H'.take H.length)) && shpsB K H H' then some (p, backH K H H') else none
              | none => none
            else none
        | none =>
          match growQ S o.op with
          | some (c, i, x, y) => if W.contains i && !R.contains i && G.contains i && srcFree R y then appendQ P ro H c x y else none
          | none => stepME P E.env ex W R K S H o) = some (p, H') ∧ k p H' = some r) := by
      split at h
      · rename_i f args hw
        try rw [hw]
        try dsimp only
        split at h
        · rename_i hp
          try rw [hp]
          exact stepMEK_some hr h
        · rename_i hne
          obtain ⟨h1, h2⟩ := need_some h
          obtain ⟨p, H', h3, h4⟩ := callIK_some hr h2
          obtain ⟨h5, h6⟩ := need_some h4
          rw [if_pos h1, h3]
          dsimp only
          rw [if_pos h5]
          exact ⟨_, _, rfl, h6⟩
      · rename_i hw
        try rw [hw]
        try dsimp only
        split at h
        · rename_i hg
          try rw [hg]
          try dsimp only
          obtain ⟨h1, h2⟩ := need_some h
          rw [if_pos h1]
          exact appendK_some h2
        · rename_i hg
          try rw [hg]
          exact stepMEK_some hr h
    obtain ⟨p, H', h1, h2⟩ := key
    refine ⟨p, H', ?_, h2⟩
    split
    · rename_i hop; exact absurd hop (hno _ _ _)
    · exact h1
def stepCK (P : Program) (E : EnvK) (ex : ExK α) (ro h0 : Nat) (K : List Nat) (S : List PV) (H : List Row) (o : Oper) (k : PV → List Row → Option α) : Option α :=
  match stOp o.op with
  | some (T, a, x) =>
    match ev S a with
    | .ptr i n q j => need (inW h0 K i) (storeK P ro H T (.ptr i n q j) (ev S x) fun H' => k (.val undef) H')
    | _ => none
  | none =>
    match wcallQ S o.op with
    | some (f, args) =>
      need (args.all (argM (mpRows args) H.length) && decide (ro ≤ H.length) && rowsOk 0 (maskH (mpRows args) H))
        (callIK P E ex ro f args (maskH (mpRows args) H) fun p H' => need (plain p && rowsOk 0 (maskH (mpRows args) (H'.take H.length)) && deadsB (mpRows args) H H') (k p (backH (mpRows args) H H')))
    | none =>
      newK P H (ev S) o.op (fun p r => k p (H ++ [r]))
        (match apOp o.op with
        | some (c, x, y) => need (apOk h0 K (ev S x)) (appendK P ro H c (ev S x) (ev S y) k)
        | none =>
          match E.opr ro H (ev S) o.op with
          | some d => d.go fun r => match Nat.beq r.2.length H.length with | true => k r.1 r.2 | false => none
          | none => none)
theorem stepCK_some {P : Program} {E : EnvK} {exK : ExK α} {ex : Ex} (hr : Ref exK ex) {ro h0 : Nat} {K : List Nat} {S : List PV} {H : List Row} {o : Oper} {k : PV → List Row → Option α} {r : α} (h : stepCK P E exK ro h0 K S H o k = some r) :
    ∃ p H', stepC P E.env ex ro h0 K S H o = some (p, H') ∧ k p H' = some r := by
  unfold stepCK at h
  unfold stepC
  split at h
  · rename_i T a x hst
    simp only [hst]
    split at h
    · rename_i ha
      simp only [ha]
      obtain ⟨h1, h2⟩ := need_some h
      rw [if_pos h1]
      obtain ⟨H', h3, h4⟩ := storeK_some h2
      exact ⟨_, _, by rw [h3]; rfl, h4⟩
    · cases h
  · rename_i hst
    simp only [hst]
    split at h
    · rename_i f args hw
      simp only [hw]
      obtain ⟨h1, h2⟩ := need_some h
      obtain ⟨p, H', h3, h4⟩ := callIK_some hr h2
      obtain ⟨h5, h6⟩ := need_some h4
      rw [if_pos h1, h3]
      dsimp only
      rw [if_pos h5]
      exact ⟨_, _, rfl, h6⟩
    · rename_i hw
      simp only [hw]
      rcases newK_some h with ⟨p, rw', h3, h4⟩ | ⟨h3, h⟩
      · exact ⟨p, _, by rw [h3], h4⟩
      · rw [h3]
        dsimp only
        split at h
        · rename_i c x y hap
          simp only [hap]
          obtain ⟨h1, h2⟩ := need_some h
          rw [if_pos h1]
          exact appendK_some h2
        · rename_i hap
          simp only [hap]
          split at h
          · rename_i d hd
            obtain ⟨x, h1, h2⟩ := DT.go_some h
            have ho : E.env.opr ro H (ev S) o.op = some x := by
              show (E.opr ro H (ev S) o.op).bind DT.run = some x
              rw [hd]; exact h1
            rw [ho]
            split at h2
            · rename_i hb
              dsimp only
              rw [if_pos (Nat.eq_of_beq_eq_true hb)]
              exact ⟨_, _, rfl, h2⟩
            · cases h2
          · cases h
def stepsCK (sf : Bool) (P : Program) (E : EnvK) (ex : ExK α) (ro h0 : Nat) (W : List (List Nat)) (m : List Nat) (n j : Nat) (S : List PV) (H : List Row) (o : Oper) (k : PV → List Row → Option α) : Option α :=
  popK P (kill (confl W m n j) (H.take h0)) (ev S) o.op (fun p => k p H) (match chainB o.op with | true => (match sf && isSoft o.op with | true => (match E.sft H (ev S) o.op with | some p => k p H | none => none) | false => stepCK P E ex ro h0 (W.getD j []) S H o k) | false => none)
theorem stepsCK_some {sf : Bool} {P : Program} {E : EnvK} {exK : ExK α} {ex : Ex} (hr : Ref exK ex) {ro h0 : Nat} {W : List (List Nat)} {m : List Nat} {n j : Nat} {S : List PV} {H : List Row} {o : Oper} {k : PV → List Row → Option α} {r : α} (h : stepsCK sf P E exK ro h0 W m n j S H o k = some r) :
    ∃ p H', stepsC sf P E.env ex ro h0 W m n j S H o = some (p, H') ∧ k p H' = some r := by
  unfold stepsCK at h
  unfold stepsC
  rcases popK_some h with ⟨p, h1, h2⟩ | ⟨h1, h⟩
  · exact ⟨p, H, by rw [h1], h2⟩
  · rw [h1]
    dsimp only
    split at h
    · rename_i hb
      rw [if_pos hb]
      split at h
      · rename_i hs
        rw [if_pos hs]
        split at h
        · rename_i p hp
          have hp' : E.env.sft H (ev S) o.op = some p := hp
          rw [hp']; exact ⟨p, H, rfl, h⟩
        · cases h
      · rename_i hs
        rw [if_neg (by rw [hs]; simp)]
        exact stepCK_some hr h
    · cases h
def stepsMK (P : Program) (E : EnvK) (ex : ExK α) (ro : Nat) (W G : List (List Nat)) (m : List Nat) (n j : Nat) : List PV → List Row → Oper → (PV → List Row → Option α) → Option α :=
  stepMK P E ex ro (W.getD j []) (confl W m n j) (confl G m n j) (G.getD j [])
def stepPK (P : Program) (E : EnvK) (ex : ExK α) (S : List PV) (H : List Row) (o : Oper) (k : PV → List Row → Option α) : Option α :=
  stepEK P E ex S H o fun p H1 => match Nat.beq H1.length H.length with | true => k p H | false => none
theorem stepPK_some {P : Program} {E : EnvK} {exK : ExK α} {ex : Ex} (hr : Ref exK ex) {S : List PV} {H : List Row} {o : Oper} {k : PV → List Row → Option α} {r : α} (h : stepPK P E exK S H o k = some r) :
    ∃ p H', stepP P E.env ex S H o = some (p, H') ∧ k p H' = some r := by
  obtain ⟨p, H1, h1, h2⟩ := stepEK_some hr h
  unfold stepP
  rw [h1]
  dsimp only
  split at h2
  · rename_i hb
    rw [if_pos (Nat.eq_of_beq_eq_true hb)]
    exact ⟨_, _, rfl, h2⟩
  · cases h2
def stepsPK (P : Program) (E : EnvK) (ex : ExK α) (ro pv j : Nat) (S : List PV) (H : List Row) (o : Oper) (k : PV → List Row → Option α) : Option α :=
  match Nat.beq j pv with
  | true => stepK P E ex ro S H o k
  | false => stepPK P E ex S H o k
theorem stepsPK_some {P : Program} {E : EnvK} {exK : ExK α} {ex : Ex} (hr : Ref exK ex) {ro pv j : Nat} {S : List PV} {H : List Row} {o : Oper} {k : PV → List Row → Option α} {r : α} (h : stepsPK P E exK ro pv j S H o k = some r) :
    ∃ p H', stepsP P E.env ex ro pv j S H o = some (p, H') ∧ k p H' = some r := by
  unfold stepsPK at h
  unfold stepsP
  split at h
  · rename_i hb
    rw [if_pos (Nat.eq_of_beq_eq_true hb)]
    exact stepK_some hr h
  · rename_i hb
    rw [if_neg (Nat.ne_of_beq_eq_false hb)]
    exact stepPK_some hr h
def opsJK (step : Nat → List PV → List Row → Oper → (PV → List Row → Option α) → Option α) (ops : Array Oper) : Nat → List Oper → List PV → List Row → (List PV → List Row → Option α) → Option α
  | _, [], S, H, k => k S H
  | j, o :: os, S, H, k => guardK ops S o fun w S1 =>
    match w with
    | true => step j S1 H o fun p H1 => opsJK step ops (j + 1) os (putS S1 o.dst p) H1 k
    | false => opsJK step ops (j + 1) os (putS S1 o.dst (.val undef)) H k
theorem opsJK_some {stK : Nat → List PV → List Row → Oper → (PV → List Row → Option α) → Option α} {st : Nat → List PV → List Row → Oper → Option (PV × List Row)}
    (hst : ∀ j S H o k r, stK j S H o k = some r → ∃ p H', st j S H o = some (p, H') ∧ k p H' = some r) {ops : Array Oper} :
    ∀ {os : List Oper} {j : Nat} {S : List PV} {H : List Row} {k : List PV → List Row → Option α} {r : α}, opsJK stK ops j os S H k = some r → ∃ S' H', opsJ st ops j os S H = some (S', H') ∧ k S' H' = some r
  | [], j, S, H, k, r, h => ⟨S, H, rfl, h⟩
  | o :: os, j, S, H, k, r, h => by
    obtain ⟨w, S1, h1, h2⟩ := guardK_some h
    simp only [opsJ, h1]
    cases w with
    | true =>
      obtain ⟨p, H1, h3, h4⟩ := hst _ _ _ _ _ _ h2
      simp only [h3]
      exact opsJK_some hst (os := os) h4
    | false => exact opsJK_some hst (os := os) h2

def iterK (body : List PV → List Row → (PX → List PV → List Row → Option α) → Option α) (live : Option (List Tmp)) (ro : Nat) : Nat → List PV → List Row → (PX → List PV → List Row → Option α) → Option α
  | 0, _, _, _ => none
  | m + 1, S, H, k =>
    body (keepS live S) H fun x S1 H1 =>
      match x with
      | .normal => bif mlts H.length (keepS live S1) && decide (H.length ≤ H1.length) && rowsOk H.length (H1.take H.length) && decide (ro ≤ H.length) then iterK body live ro m (trimS H.length (keepS live S1)) (H1.take H.length) k
        else iterK body live ro m (keepS live S1) H1 k
      | .exit i => k (.exit i) S1 H1
      | .ret => k .ret S1 H1
theorem iterK_some {bK : List PV → List Row → (PX → List PV → List Row → Option α) → Option α} {b : List PV → List Row → Option (PX × List PV × List Row)}
    (hb : ∀ S H k r, bK S H k = some r → ∃ x S' H', b S H = some (x, S', H') ∧ k x S' H' = some r) {live : Option (List Tmp)} {ro : Nat} :
    ∀ {m : Nat} {S : List PV} {H : List Row} {k : PX → List PV → List Row → Option α} {r : α}, iterK bK live ro m S H k = some r → ∃ x S' H', iterQ b live ro m S H = some (x, S', H') ∧ k x S' H' = some r
  | 0, _, _, _, _, h => by cases h
  | m + 1, S, H, k, r, h => by
    obtain ⟨x, S1, H1, h1, h2⟩ := hb _ _ _ _ h
    simp only [iterQ, h1]
    cases x with
    | normal =>
      dsimp only at h2 ⊢
      split
      · rename_i g1
        rw [g1] at h2
        exact iterK_some hb (m := m) h2
      · rename_i g1
        rw [Bool.not_eq_true] at g1
        rw [g1] at h2
        exact iterK_some hb (m := m) h2
    | exit i => exact ⟨_, _, _, rfl, h2⟩
    | ret => exact ⟨_, _, _, rfl, h2⟩

def askSl (H : List Row) (h : Nat) : PV → Bool
  | .sl i n _ _ => match decide (h ≤ i) with | true => (match rowAt H i with | some r => !r.bv || (r.es.length == n) | none => true) | false => true
  | _ => true
def lfzU (P : Program) (H : List Row) (h : Nat) : PV → PV
  | .sl i n k len =>
    match decide (h ≤ i) with
    | true =>
      match rowAt H i with
      | some r => match r.bv with | true => .lst false r.t ((r.es.drop k).take len) | false => lfz P H h (.sl i n k len)
      | none => lfz P H h (.sl i n k len)
    | false => lfz P H h (.sl i n k len)
  | p => lfz P H h p
theorem lfzU_eq {P : Program} {H : List Row} {h : Nat} {p : PV} (ha : askSl H h p = true) : lfzU P H h p = lfz P H h p := by
  unfold lfzU
  split
  · rename_i i n k len
    split
    · rename_i hi
      split
      · rename_i r hr
        split
        · rename_i hb
          unfold askSl at ha
          simp only [hi, hr, hb, Bool.not_true, Bool.false_or, beq_iff_eq] at ha
          have hi' := of_decide_eq_true hi
          have hf : frz H h (.sl i n k len) = .lst false r.t ((r.es.drop k).take len) := by
            unfold frz
            rw [if_pos hi', hr]
            dsimp only
            rw [if_pos (by simp [hb, ha])]
          show _ = (match mlt h (frz H h (.sl i n k len)) with | true => frz H h (.sl i n k len) | false => .any)
          rw [hf]; rfl
        · rfl
      · rfl
    · rfl
  · rfl
def deepEU (P : Program) (H : List Row) (h : Nat) (e : PV) : PV := .agg (e.cells.map (lfzU P H h))
def deepRU (P : Program) (H : List Row) (h : Nat) (r : Row) : Row :=
  match r.live with
  | false => r
  | true => match r.bv with | true => r | false => { r with es := r.es.map (deepEU P H h), bv := (r.es.map (deepEU P H h)).all (wt P r.t) }
def askR (H : List Row) (h : Nat) (r : Row) : Bool := !r.live || r.bv || r.es.all fun e => e.cells.all (askSl H h)
theorem deepRU_eq {P : Program} {H : List Row} {h : Nat} {r : Row} (ha : askR H h r = true) : deepRU P H h r = deepR P H h r := by
  unfold deepRU deepR
  cases hl : r.live with
  | false => rfl
  | true =>
    cases hb : r.bv with
    | true => rfl
    | false =>
      unfold askR at ha
      simp only [hl, hb, Bool.not_true, Bool.false_or, List.all_eq_true] at ha
      have he : r.es.map (deepEU P H h) = r.es.map (deepE P H h) := List.map_congr_left fun e hm => by
        unfold deepEU deepE
        congr 1
        exact List.map_congr_left fun c hc => lfzU_eq (ha e hm c hc)
      dsimp only
      rw [he]
def dropU (P : Program) (ro h : Nat) (S : List PV) (H : List Row) : List PV × List Row :=
  match Nat.beq ro 0 && decide (h ≤ H.length) && lpOk h (H.take h) && (H.drop h).all (fun r => r.lp.isNone) with
  | true => (S.map (lfzU P H h), (H.take h).map (deepRU P H h) ++ List.replicate (H.length - h) deadRow0)
  | false => (S, H)
def askAll (h : Nat) (S : List PV) (H : List Row) : Bool := S.all (askSl H h) && (H.take h).all (askR H h)
theorem dropU_eq {P : Program} {ro h : Nat} {S : List PV} {H : List Row} (ha : askAll h S H = true) : dropU P ro h S H = dropQ P ro (some (h, true)) S H := by
  simp only [askAll, Bool.and_eq_true, List.all_eq_true] at ha
  have e1 : S.map (lfzU P H h) = S.map (lfz P H h) := List.map_congr_left fun p hp => lfzU_eq (ha.1 p hp)
  have e2 : (H.take h).map (deepRU P H h) = (H.take h).map (deepR P H h) := List.map_congr_left fun r hr => deepRU_eq (ha.2 r hr)
  unfold dropU dropQ
  dsimp only
  rw [e1, e2]
  cases (Nat.beq ro 0 && decide (h ≤ H.length) && lpOk h (H.take h) && (H.drop h).all (fun r => r.lp.isNone)) <;> rfl
def dropK (P : Program) (ro : Nat) (o : Option (Nat × Bool)) (S : List PV) (H : List Row) (k : List PV → List Row → Option α) : Option α :=
  match o with
  | some (h, true) => need (askAll h S H) (k (dropU P ro h S H).1 (dropU P ro h S H).2)
  | o => k (dropQ P ro o S H).1 (dropQ P ro o S H).2
theorem dropK_some {P : Program} {ro : Nat} {o : Option (Nat × Bool)} {S : List PV} {H : List Row} {k : List PV → List Row → Option α} {r : α} (h : dropK P ro o S H k = some r) : k (dropQ P ro o S H).1 (dropQ P ro o S H).2 = some r := by
  unfold dropK at h
  split at h
  · obtain ⟨h1, h2⟩ := need_some h
    rw [dropU_eq h1] at h2
    exact h2
  · exact h
def setC (S : List PV) (c : Operand) (b : Bool) : List PV := match c with | .tmp d => S.set d (.val (.bool b)) | _ => S
theorem setC_same {S : List PV} {c : Operand} {b : Bool} (h : ev S c = .val (.bool b)) : setC S c b = S := by
  cases c with
  | tmp d =>
    show S.set d (.val (.bool b)) = S
    have h' : S.getD d (.val undef) = .val (.bool b) := h
    apply List.ext_getElem?
    intro i
    rw [List.getElem?_set]
    split
    · rename_i e; subst e
      split
      · rename_i hl
        rw [← h']
        simp [List.getD, List.getElem?_eq_getElem hl]
      · rename_i hl; exact (List.getElem?_eq_none (by omega)).symm
    · rfl
  | _ => rfl

def execK (P : Program) (E : EnvK) : Nat → ExK α
  | 0 => fun _ _ _ _ _ _ => none
  | n + 1 => fun ro f c S H k =>
    match c with
    | .skip => k .normal S H
    | .label _ => k .normal S H
    | .region id ops draw =>
      dropK P ro (E.drop f id) S H fun S H =>
        match draw with
        | true =>
          match drawOk P ops.toList with
          | true =>
            match E.chain f id with
            | true =>
              match chainOk (E.soft f id) (masks ops.toList []) ops.toList with
              | true => opsJK (stepsCK (E.soft f id) P E (execK P E n) ro H.length (guessK P H S ops.toList H.length) (masks ops.toList []) ops.size) ops 0 ops.toList S H fun S' H' => k .normal S' H'
              | false => none
            | false =>
            match pivotE (E.piv f id) ops.toList S with
            | some pv =>
              match pivotOk (masks ops.toList []) ops.size pv with
              | true => opsJK (stepsPK P E (execK P E n) ro pv) ops 0 ops.toList S H fun S' H' => k .normal S' H'
              | false => none
            | none =>
              match mixed (guessW E.pure H S ops.toList H.length) with
              | true => opsJK (stepsMK P E (execK P E n) ro ((guessW E.pure H S ops.toList H.length).map fun x => x.2.1) ((guessW E.pure H S ops.toList H.length).map fun x => x.2.2) (masks ops.toList []) ops.size) ops 0 ops.toList S H fun S' H' => k .normal S' H'
              | false => opsK (stepEK P E (execK P E n)) ops ops.toList S H fun S' H' => k .normal S' H'
          | false => none
        | false => opsK (stepK P E (execK P E n) ro) ops ops.toList S H fun S' H' => k .normal S' H'
    | .seq a b => execK P E n ro f a S H fun x S1 H1 =>
      match x with
      | .normal => execK P E n ro f b S1 H1 k
      | .exit i => k (.exit i) S1 H1
      | .ret => k .ret S1 H1
    | .cond c x y =>
      match ev S c with
      | .val (.bool t) => bif t then execK P E n ro f x (setC S c true) H k else execK P E n ro f y (setC S c false) H k
      | _ => none
    | .block id b => execK P E n ro f b S H fun x S1 H1 =>
      match x with
      | .exit i => bif decide (i = id) then k .normal S1 H1 else k (.exit i) S1 H1
      | .normal => k .normal S1 H1
      | .ret => k .ret S1 H1
    | .loop b =>
      match nilsQ ro (E.nils f (rid b)) S H with
      | (S0, H0) =>
        match E.lo f ro (rid b) (keepS (E.live f (rid b)) S0) H0 with
        | some d => d.go fun r => k r.1 r.2.1 r.2.2
        | none => iterK (execK P E n ro f b) (E.live f (rid b)) ro n S0 H0 k
    | .scope b => execK P E n ro f b S H k
    | .exit id => k (.exit id) S H
    | .ret => k .ret S H
    | .rangeFunc g ps asg body =>
      match keepS (E.live f (rid asg)) S with
      | S0 =>
        match ev S0 g with
        | .fn (.func kf) first cap => callIK P E (execK P E n) ro kf (first ++ [.yld H.length] ++ cap) (H ++ [loopRow f S0 ps asg body]) fun _ H2 => overK S0 H.length H2 k
        | _ => none
    | _ => none

theorem execK_ref {P : Program} {E : EnvK} : ∀ n, Ref (α := α) (execK P E n) (exec P E.env n)
  | 0 => fun _ _ _ _ _ _ _ h => by cases h
  | n + 1 => fun ro f c S H k r h => by
    have ih := execK_ref (P := P) (E := E) n
    cases c <;> simp only [execK, reduceCtorEq] at h
    case skip => exact ⟨_, _, _, rfl, h⟩
    case label => exact ⟨_, _, _, rfl, h⟩
    case region id ops draw =>
      have h := dropK_some h
      have hdr0 : E.env.drop f id = E.drop f id := rfl
      simp only [exec, hdr0]
      generalize dropQ P ro (E.drop f id) S H = SH at h ⊢
      obtain ⟨S, H⟩ := SH
      dsimp only at h ⊢
      split at h
      · rename_i hdr
        split at h
        · rename_i hok
          have hch0 : E.env.chain f id = E.chain f id := rfl
          rw [if_pos rfl, if_pos hok, hch0]
          split at h
          · rename_i hch
            rw [if_pos hch]
            split at h
            · rename_i hco
              obtain ⟨S', H', h1, h2⟩ := opsJK_some (stK := stepsCK (E.soft f id) P E (execK P E n) ro H.length (guessK P H S ops.toList H.length) (masks ops.toList []) ops.size) (st := stepsC (E.soft f id) P E.env (exec P E.env n) ro H.length (guessK P H S ops.toList H.length) (masks ops.toList []) ops.size) (fun j S1 H1 o k r h => stepsCK_some ih h) h
              exact ⟨_, _, _, by rw [show E.env.soft f id = E.soft f id from rfl, if_pos hco, h1]; rfl, h2⟩
            · cases h
          rename_i hch
          rw [if_neg (by rw [hch]; simp)]
          split at h
          · rename_i pv hpn
            split at h
            · rename_i hpo
              obtain ⟨S', H', h1, h2⟩ := opsJK_some (stK := stepsPK P E (execK P E n) ro pv) (st := stepsP P E.env (exec P E.env n) ro pv) (fun j S1 H1 o k r h => stepsPK_some ih h) h
              exact ⟨_, _, _, by simp only [show pivotE (E.env.piv f id) ops.toList S = _ from hpn]; rw [if_pos hpo, h1]; rfl, h2⟩
            · cases h
          · rename_i hpn
            split at h
            · rename_i hm
              obtain ⟨S', H', h1, h2⟩ := opsJK_some (stK := stepsMK P E (execK P E n) ro ((guessW E.pure H S ops.toList H.length).map (fun x : Bool × List Nat × List Nat => x.2.1)) ((guessW E.pure H S ops.toList H.length).map (fun x : Bool × List Nat × List Nat => x.2.2)) (masks ops.toList []) ops.size) (st := stepsM P E.env (exec P E.env n) ro ((guessW E.env.pure H S ops.toList H.length).map (fun x : Bool × List Nat × List Nat => x.2.1)) ((guessW E.env.pure H S ops.toList H.length).map (fun x : Bool × List Nat × List Nat => x.2.2)) (masks ops.toList []) ops.size) (fun j S1 H1 o k r (h : stepMK P E (execK P E n) ro _ _ _ _ S1 H1 o k = some r) => stepMK_some ih h) h
              exact ⟨_, _, _, by simp only [show pivotE (E.env.piv f id) ops.toList S = _ from hpn]; rw [if_pos (show mixed (guessW E.env.pure H S ops.toList H.length) = true from hm), h1]; rfl, h2⟩
            · rename_i hm
              obtain ⟨S', H', h1, h2⟩ := opsK_some (st := stepE P E.env (exec P E.env n)) (fun S H o k r h => stepEK_some ih h) h
              exact ⟨_, _, _, by simp only [show pivotE (E.env.piv f id) ops.toList S = _ from hpn]; rw [if_neg (show ¬ mixed (guessW E.env.pure H S ops.toList H.length) = true from by rw [show mixed (guessW E.env.pure H S ops.toList H.length) = false from hm]; simp), h1]; rfl, h2⟩
        · cases h
      · rename_i hdr
        obtain ⟨S', H', h1, h2⟩ := opsK_some (st := stepS P E.env (exec P E.env n) ro) (fun S H o k r h => stepK_some ih h) h
        exact ⟨_, _, _, by rw [if_neg (by simp), h1]; rfl, h2⟩
    case seq a b =>
      obtain ⟨x, S1, H1, h1, h2⟩ := ih _ _ _ _ _ _ _ h
      simp only [exec, h1]
      cases x with
      | normal => exact ih _ _ _ _ _ _ _ h2
      | exit i => exact ⟨_, _, _, rfl, h2⟩
      | ret => exact ⟨_, _, _, rfl, h2⟩
    case cond c x y =>
      split at h
      · rename_i t ht
        simp only [exec, ht]
        cases t
        · simp only [cond_false, setC_same ht] at h; exact ih _ _ _ _ _ _ _ h
        · simp only [cond_true, setC_same ht] at h; exact ih _ _ _ _ _ _ _ h
      · cases h
    case block id b =>
      obtain ⟨x, S1, H1, h1, h2⟩ := ih _ _ _ _ _ _ _ h
      simp only [exec, h1]
      cases x with
      | normal => exact ⟨_, _, _, rfl, h2⟩
      | ret => exact ⟨_, _, _, rfl, h2⟩
      | exit i =>
        dsimp only at h2 ⊢
        by_cases hi : i = id
        · rw [if_pos hi]; simp only [hi, decide_true, cond_true] at h2; exact ⟨_, _, _, rfl, h2⟩
        · rw [if_neg hi]; simp only [hi, decide_false, cond_false] at h2; exact ⟨_, _, _, rfl, h2⟩
    case loop b =>
      simp only [exec]
      show ∃ x S' H', (match (E.lo f ro (rid b) (keepS (E.live f (rid b)) (nilsQ ro (E.nils f (rid b)) S H).1) (nilsQ ro (E.nils f (rid b)) S H).2).bind DT.run with | some r => some r | none => iterQ (exec P E.env n ro f b) (E.live f (rid b)) ro n (nilsQ ro (E.nils f (rid b)) S H).1 (nilsQ ro (E.nils f (rid b)) S H).2) = some (x, S', H') ∧ _
      generalize nilsQ ro (E.nils f (rid b)) S H = SH at h ⊢
      obtain ⟨S0, H0⟩ := SH
      dsimp only at h ⊢
      split at h
      · rename_i d hd
        obtain ⟨a, h1, h2⟩ := DT.go_some h
        rw [hd]
        simp only [Option.bind_some, h1]
        exact ⟨_, _, _, rfl, h2⟩
      · rename_i hd
        rw [hd]
        exact iterK_some (fun S H k r h => ih _ _ _ _ _ _ _ h) h
    case scope b => exact ih _ _ _ _ _ _ _ h
    case exit id => exact ⟨_, _, _, rfl, h⟩
    case ret => exact ⟨_, _, _, rfl, h⟩
    case rangeFunc g ps asg body =>
      split at h
      · rename_i kf first cap hg
        simp only [exec]
        rw [show E.env.live = E.live from rfl, hg]
        obtain ⟨p, H2, h1, h2⟩ := callIK_some ih h
        simp only [h1]
        exact overK_some h2
      · cases h
end

def runP (P : Program) (E : EnvK) (n : Nat) (f : FuncId) (args : List PV) : Option PV :=
  need (mlts 0 args) (callXK P (execK P E n) 0 f args [] fun p H' => frzK H' 0 p fun q => need (mlt 0 q) (some q))
def runR (P : Program) (E : EnvK) (n : Nat) (ro : Nat) (f : FuncId) (args : List PV) (H : List Row) : Option (PV × List Row) :=
  callXK P (execK P E n) ro f args H fun p H' => some (p, H')
theorem runR_sound {P : Program} {E : EnvK} (hE : EnvOK P E.env) {n ro : Nat} {f : FuncId} {args : List PV} {H H' : List Row} {p : PV} (h : runR P E n ro f args H = some (p, H')) : Enters P f ∧ RCall P ro f args H p H' := by
  obtain ⟨q, H1, h1, h2⟩ := callXK_some (execK_ref n) h
  cases h2
  refine ⟨?_, fun C hH hro hR Vs hv => ?_⟩
  · intro Vs w
    unfold callX at h1
    split at h1
    · rename_i fn hfn
      split at h1
      · rename_i b hb
        split at h1
        · cases h1
        · rename_i hn; simp [callFunc, hfn, hb]; simpa using hn
      · cases h1
    · cases h1
  · subst hH
    exact (callX_sound hE (exec_ok hE n) hR hro hv h1).2
theorem callX_enters {P : Program} {ex : Ex} {ro : Nat} {f : FuncId} {args : List PV} {H H' : List Row} {p : PV} (h1 : callX P ex ro f args H = some (p, H')) : Enters P f := by
  intro Vs w
  unfold callX at h1
  split at h1
  · rename_i fn hfn
    split at h1
    · rename_i b hb
      split at h1
      · cases h1
      · rename_i hn; simp [callFunc, hfn, hb]; simpa using hn
    · cases h1
  · cases h1
theorem runP_sound {P : Program} {E : EnvK} (hE : EnvOK P E.env) {n : Nat} {f : FuncId} {args : List PV} {p : PV} (h : runP P E n f args = some p) : Enters P f ∧ PCall P f args p := by
  obtain ⟨hm, h⟩ := need_some h
  obtain ⟨q, H2, hI, h2⟩ := callXK_some (execK_ref n) h
  obtain ⟨hq, h2⟩ := need_some (frzK_some h2)
  cases h2
  refine ⟨callX_enters hI, fun C hR Vs hv => ?_⟩
  have hRc : RH P (C.cut 0 True 0) := hR.cut (Nat.zero_le _) (Nat.le_refl _) (by simp [rowsOk])
  have hvc : Cs P (C.cut 0 True 0) args Vs := ⟨hv.1, fun j c v h1 h2 => (hv.2 j c v h1 h2).cut (Nat.zero_le _) (mlts_get hm h1)⟩
  have g2 := (callX_sound hE (exec_ok hE n) (C := C.cut 0 True 0) hRc rfl hvc hI).2
  refine g2.mono ?_
  rintro e w' ⟨V, C', rfl, rfl, hc⟩
  refine ⟨V, rfl, back_same hc.ext, ?_⟩
  have hH2 := hc.H
  subst hH2
  have h1 := hc.rv.frz (ro := C'.ro) hc.rh (Nat.zero_le _) hq
  have hx2 : Ext (C.cut 0 True 0) (C'.cut 0 False C'.ro) := hc.ext.cut (Nat.zero_le _) (Nat.zero_le _) (Nat.zero_le _)
  exact RV.back (Ci := C'.cut 0 False C'.ro) (Nat.zero_le _) hx2 h1 hq

def nrm : PV → PV
  | .val (.agg a) => .agg (a.toList.map .val)
  | p => p
theorem RV.nrm {P : Program} {C : Ctx} {p : PV} {V : Value} (h : RV P C p V) : RV P C (nrm p) V := by
  unfold Hx.nrm
  split
  · cases h
    refine .agg (by simp) fun j c v h1 h2 => ?_
    simp only [List.getElem?_map, Option.map_eq_some_iff] at h1
    obtain ⟨x, hx, rfl⟩ := h1
    have : x = v := Option.some.inj (hx.symm.trans (by rw [Array.getElem?_toList]; exact h2))
    subst this
    exact .val
  · exact h
theorem Cs.nrm {P : Program} {C : Ctx} {ps : List PV} {Vs : Array Value} (h : Cs P C ps Vs) : Cs P C (ps.map Hx.nrm) Vs := by
  refine ⟨by simpa using h.1, fun j c v h1 h2 => ?_⟩
  simp only [List.getElem?_map, Option.map_eq_some_iff] at h1
  obtain ⟨x, hx, rfl⟩ := h1
  exact (h.2 j x v hx h2).nrm

def EnvK.addO (E : EnvK) (k : FuncId) (c : List PV → Option PV) : EnvK := { E with ora := fun f a => if f = k then c (a.map nrm) else E.ora f a }
def EnvK.addC (E : EnvK) (k : FuncId) (c : Nat → List PV → List Row → Option (DT (PV × List Row))) : EnvK := { E with cal := fun ro f a H => if f = k then c ro a H else E.cal ro f a H }
def EnvK.addN (E : EnvK) (k : FuncId) (i : Nat) (l : List (Tmp × TypeId × Nat)) : EnvK := { E with nils := fun f j => if f = k then (if j = i then l else E.nils f j) else E.nils f j }
def EnvK.addK (E : EnvK) (k : FuncId) : EnvK := { E with keep := fun f => if f = k then true else E.keep f }

def EnvK.addDrop (E : EnvK) (k : FuncId) (i h : Nat) : EnvK := { E with drop := fun f j => if f = k then (if j = i then some (h, false) else E.drop f j) else E.drop f j }
def EnvK.addDeep (E : EnvK) (k : FuncId) (i h : Nat) : EnvK := { E with drop := fun f j => if f = k then (if j = i then some (h, true) else E.drop f j) else E.drop f j }

theorem LoH.mono {P : Program} {E E' : Env} {f : FuncId} (h : ∀ ro i S H x S' H', E'.lo f ro i S H = some (x, S', H') → E.lo f ro i S H = some (x, S', H')) : ∀ {c : Code}, LoH P E f c → LoH P E' f c
  | .seq a b, hc => ⟨LoH.mono h (c := a) hc.1, LoH.mono h (c := b) hc.2⟩
  | .cond _ x y, hc => ⟨LoH.mono h (c := x) hc.1, LoH.mono h (c := y) hc.2⟩
  | .block _ b, hc => LoH.mono h (c := b) hc
  | .scope b, hc => LoH.mono h (c := b) hc
  | .loop b, hc => ⟨fun ro S H x S' H' g => hc.1 ro S H x S' H' (h _ _ _ _ _ _ _ g), LoH.mono h (c := b) hc.2⟩
  | .rangeFunc _ _ a b, hc => ⟨LoH.mono h (c := a) hc.1, LoH.mono h (c := b) hc.2⟩
  | .skip, _ | .label _, _ | .region _ _ _, _ | .exit _, _ | .ret, _ | .goto _, _ | .refuse _, _ => trivial

theorem envOK_zero {P : Program} : EnvOK P ({} : EnvK).env where
  opr := fun _ _ _ _ _ _ h => by cases h
  inp := fun _ _ _ _ _ _ h => by cases h
  sft := fun _ _ _ _ h => by cases h
  sftE := fun _ _ _ _ _ _ _ _ h => by cases h
  ent := fun _ _ _ h => by cases h
  cal := fun _ _ _ _ _ _ h => by cases h
  ora := fun _ _ _ h => by cases h
  lo := fun k fn b _ _ => by
    have : ∀ c : Code, LoH P ({} : EnvK).env k c := by
      intro c
      induction c with
      | seq a b iha ihb => exact ⟨iha, ihb⟩
      | cond c x y ihx ihy => exact ⟨ihx, ihy⟩
      | block i b ih => exact ih
      | scope b ih => exact ih
      | loop b ih => exact ⟨fun _ _ _ _ _ _ h => (by cases h), ih⟩
      | rangeFunc g ps a b iha ihb => exact ⟨iha, ihb⟩
      | _ => trivial
    exact this b
theorem ora_addO {E : EnvK} {k : FuncId} {c : List PV → Option PV} {f : FuncId} {a : List PV} {r : PV} (h : (E.addO k c).env.ora f a = some r) : (f = k ∧ c (a.map nrm) = some r) ∨ E.env.ora f a = some r := by
  change (match E.orD f a with | some d => d.run | none => if f = k then c (a.map nrm) else E.ora f a) = some r at h
  split at h
  · rename_i d hd; exact .inr (ora_orD hd h)
  · rename_i hd
    split at h
    · rename_i e; exact .inl ⟨e, h⟩
    · exact .inr (ora_of hd h)
theorem EnvOK.addO {P : Program} {E : EnvK} (hE : EnvOK P E.env) {k : FuncId} {c : List PV → Option PV} (hc : ∀ args r, c args = some r → Enters P k ∧ PCall P k args r) : EnvOK P (E.addO k c).env where
  opr := hE.opr
  inp := hE.inp
  sft := hE.sft
  sftE := hE.sftE
  ent := fun f a r h => by
    rcases ora_addO h with ⟨e, g⟩ | h
    · subst e; exact (hc _ _ g).1
    · exact hE.ent f a r h
  cal := hE.cal
  ora := fun f a r h => by
    rcases ora_addO h with ⟨e, g⟩ | h
    · subst e
      exact fun C hR Vs hv => (hc _ _ g).2 C hR Vs hv.nrm
    · exact hE.ora f a r h
  lo := fun f fn b h1 h2 => LoH.mono (E := E.env) (E' := (E.addO k c).env) (fun _ _ _ _ _ _ _ h => h) (hE.lo f fn b h1 h2)
def EnvK.addF (E : EnvK) (k : FuncId) (c : List PV → Option (DT PV)) : EnvK := { E with orD := fun f a => if f = k then (match c (a.map nrm) with | some d => some d | none => E.orD f a) else E.orD f a }
theorem ora_addF {E : EnvK} {k : FuncId} {c : List PV → Option (DT PV)} {f : FuncId} {a : List PV} {r : PV} (h : (E.addF k c).env.ora f a = some r) : (f = k ∧ ∃ d, c (a.map nrm) = some d ∧ d.run = some r) ∨ E.env.ora f a = some r := by
  change (match (if f = k then (match c (a.map nrm) with | some d => some d | none => E.orD f a) else E.orD f a) with | some d => d.run | none => E.ora f a) = some r at h
  by_cases e : f = k
  · rw [if_pos e] at h
    cases hc : c (a.map nrm) with
    | some d => rw [hc] at h; exact .inl ⟨e, d, rfl, h⟩
    | none => rw [hc] at h; exact .inr h
  · rw [if_neg e] at h; exact .inr h
theorem EnvOK.addF {P : Program} {E : EnvK} (hE : EnvOK P E.env) {k : FuncId} {c : List PV → Option (DT PV)} (hent : Enters P k) (hc : ∀ args d r, c args = some d → d.run = some r → PCall P k args r) : EnvOK P (E.addF k c).env where
  opr := hE.opr
  inp := hE.inp
  sft := hE.sft
  sftE := hE.sftE
  ent := fun f a r h => by
    rcases ora_addF h with ⟨e, _⟩ | h
    · subst e; exact hent
    · exact hE.ent f a r h
  cal := hE.cal
  ora := fun f a r h => by
    rcases ora_addF h with ⟨e, d, h1, h2⟩ | h
    · subst e
      exact fun C hR Vs hv => hc _ _ _ h1 h2 C hR Vs hv.nrm
    · exact hE.ora f a r h
  lo := fun f fn b h1 h2 => LoH.mono (E := E.env) (E' := (E.addF k c).env) (fun _ _ _ _ _ _ _ h => h) (hE.lo f fn b h1 h2)
theorem EnvOK.addC {P : Program} {E : EnvK} (hE : EnvOK P E.env) {k : FuncId} {c : Nat → List PV → List Row → Option (DT (PV × List Row))} (hent : Enters P k)
    (hc : ∀ ro args H d p H', c ro args H = some d → d.run = some (p, H') → RCall P ro k args H p H') : EnvOK P (E.addC k c).env where
  opr := hE.opr
  inp := hE.inp
  sft := hE.sft
  sftE := hE.sftE
  ent := hE.ent
  cal := fun ro f a H p H' h => by
    change (if f = k then c ro a H else E.cal ro f a H).bind DT.run = some (p, H') at h
    split at h
    · rename_i e; subst e
      obtain ⟨d, h1, h2⟩ := Option.bind_eq_some_iff.1 h
      exact ⟨hent, hc _ _ _ _ _ _ h1 h2⟩
    · exact hE.cal ro f a H p H' h
  ora := hE.ora
  lo := fun f fn b h1 h2 => LoH.mono (E := E.env) (E' := (E.addC k c).env) (fun _ _ _ _ _ _ _ h => h) (hE.lo f fn b h1 h2)
def loops : Code → List Code
  | .seq a b => loops a ++ loops b
  | .cond _ x y => loops x ++ loops y
  | .block _ b => loops b
  | .scope b => loops b
  | .loop b => b :: loops b
  | .rangeFunc _ _ a b => loops a ++ loops b
  | _ => []
theorem LoH.of {P : Program} {E : Env} {f : FuncId} : ∀ {c : Code}, (∀ b, b ∈ loops c → SubC (.loop b) c → ∀ ro S H x S' H', E.lo f ro (rid b) S H = some (x, S', H') → WpTo P (.loop b) ro S H x S' H') → LoH P E f c
  | .seq a b, h => ⟨LoH.of (c := a) fun b hb hs => h b (by simp [loops, hb]) (.seq1 hs), LoH.of (c := b) fun b hb hs => h b (by simp [loops, hb]) (.seq2 hs)⟩
  | .cond _ a b, h => ⟨LoH.of (c := a) fun b hb hs => h b (by simp [loops, hb]) (.cond1 hs), LoH.of (c := b) fun b hb hs => h b (by simp [loops, hb]) (.cond2 hs)⟩
  | .block _ b, h => LoH.of (c := b) fun b hb hs => h b (by simpa [loops] using hb) (.block hs)
  | .scope b, h => LoH.of (c := b) fun b hb hs => h b (by simpa [loops] using hb) (.scope hs)
  | .loop b, h => ⟨h b (by simp [loops]) .here, LoH.of (c := b) fun b hb hs => h b (by simp [loops, hb]) (.loop hs)⟩
  | .rangeFunc _ _ a b, h => ⟨LoH.of (c := a) fun b hb hs => h b (by simp [loops, hb]) (.range1 hs), LoH.of (c := b) fun b hb hs => h b (by simp [loops, hb]) (.range2 hs)⟩
  | .skip, _ | .label _, _ | .region _ _ _, _ | .exit _, _ | .ret, _ | .goto _, _ | .refuse _, _ => trivial
theorem EnvOK.addN {P : Program} {E : EnvK} (hE : EnvOK P E.env) (k : FuncId) (i : Nat) (l : List (Tmp × TypeId × Nat)) : EnvOK P (E.addN k i l).env where
  opr := hE.opr
  inp := hE.inp
  sft := hE.sft
  sftE := hE.sftE
  ent := hE.ent
  cal := hE.cal
  ora := hE.ora
  lo := fun f fn b h1 h2 => LoH.mono (E := E.env) (E' := (E.addN k i l).env) (fun _ _ _ _ _ _ _ h => h) (hE.lo f fn b h1 h2)
theorem EnvOK.addK {P : Program} {E : EnvK} (hE : EnvOK P E.env) (k : FuncId) : EnvOK P (E.addK k).env where
  opr := hE.opr
  inp := hE.inp
  sft := hE.sft
  sftE := hE.sftE
  ent := hE.ent
  cal := hE.cal
  ora := hE.ora
  lo := fun f fn b h1 h2 => LoH.mono (E := E.env) (E' := (E.addK k).env) (fun _ _ _ _ _ _ _ h => h) (hE.lo f fn b h1 h2)
theorem EnvOK.addDrop {P : Program} {E : EnvK} (hE : EnvOK P E.env) (k : FuncId) (i h : Nat) : EnvOK P (E.addDrop k i h).env where
  opr := hE.opr
  inp := hE.inp
  sft := hE.sft
  sftE := hE.sftE
  ent := hE.ent
  cal := hE.cal
  ora := hE.ora
  lo := fun f fn b h1 h2 => LoH.mono (E := E.env) (E' := (E.addDrop k i h).env) (fun _ _ _ _ _ _ _ h => h) (hE.lo f fn b h1 h2)
def EnvK.addChain (E : EnvK) (k : FuncId) (i : Nat) : EnvK := { E with chain := fun f j => if f = k then (if j = i then true else E.chain f j) else E.chain f j }
theorem EnvOK.addChain {P : Program} {E : EnvK} (hE : EnvOK P E.env) (k : FuncId) (i : Nat) : EnvOK P (E.addChain k i).env where
  opr := hE.opr
  inp := hE.inp
  sft := hE.sft
  sftE := hE.sftE
  ent := hE.ent
  cal := hE.cal
  ora := hE.ora
  lo := fun f fn b h1 h2 => LoH.mono (E := E.env) (E' := (E.addChain k i).env) (fun _ _ _ _ _ _ _ h => h) (hE.lo f fn b h1 h2)
theorem EnvOK.addDeep {P : Program} {E : EnvK} (hE : EnvOK P E.env) (k : FuncId) (i h : Nat) : EnvOK P (E.addDeep k i h).env where
  opr := hE.opr
  inp := hE.inp
  sft := hE.sft
  sftE := hE.sftE
  ent := hE.ent
  cal := hE.cal
  ora := hE.ora
  lo := fun f fn b h1 h2 => LoH.mono (E := E.env) (E' := (E.addDeep k i h).env) (fun _ _ _ _ _ _ _ h => h) (hE.lo f fn b h1 h2)
end Go.Hx
