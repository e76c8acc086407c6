/- Hx: what the machine computes is what the model does: calls and single operations. -/
import Derived.Test.YtadcoepikgjgmaaHxLoop
import Derived.OrdersIn
import Derived.LoopNIn
import Derived.TacticsIn
namespace Go.Hx

def XOut : PX → Exit
  | .normal => .normal
  | .exit id => .exit id
  | .ret => .ret

/-- Activations of functions, and rounds of a range over a function: any function, any depth. -/
def Fr (r : Option Nat) : Fence := { Fence.wide with round := r }
theorem fr_calls {r : Option Nat} {n : Nat} {P : Program} {f : FuncId} {args : Array Value} {w : World} {R : Ending → World → Prop} : CallsIn (Fr r) n P f args w R ↔ Calls P f args w R :=
  callsIn_wide (n := n)
theorem semAt_value {r : Option Nat} {P : Program} {o : Oper} {ρ : Operand → Value} {w w' : World} {x : Next} (h : (execOp ρ o).run P w = .ok x w') (hx : ∀ d, x ≠ .defer d) : (o.semAt r ρ).run P w = .ok x w' := by
  by_cases hd : ∃ c, o.op = .defer c
  · obtain ⟨c, hc⟩ := hd
    exfalso
    unfold execOp at h
    simp only [hc] at h
    simp only [Sem.run_bind] at h
    revert h
    cases hr : (resolve ρ c o.type).run P w with
    | ok d w2 => simp only [Result.andThen_ok, Sem.run_pure]; intro h; cases h; exact hx _ rfl
    | halt y w2 => simp [Result.andThen]
  · rw [Oper.semAt_eq r ρ o fun c hc => hd ⟨c, hc⟩]; exact h

/-- The code, from such a state, comes to this one. -/
def WpTo (P : Program) (c : Code) (ro : Nat) (S : List PV) (H : List Row) (x : PX) (S' : List PV) (H' : List Row) : Prop :=
  ∀ (r : Option Nat) (C : Ctx) (a : Act), C.H = H → C.ro = ro → RH P C → RSl P C S a.tmps → RoundOK r C.w → ∀ Q : Exit → Act → World → Prop,
    (∀ (a' : Act) (C' : Ctx), Dfs C.w a C'.w a' → C'.H = H' → Ext C C' → RH P C' → RSl P C' S' a'.tmps → Q (XOut x) a' C'.w) → c.wpIn (Fr r) 0 P Q a C.w

/-- The contract of a call by value: from whatever state, it hands back what stands for r, and no block that was there has turned. -/
def PCall (P : Program) (k : FuncId) (args : List PV) (r : PV) : Prop :=
  ∀ (C : Ctx), RH P C → ∀ Vs : Array Value, Cs P C args Vs → Calls P k Vs C.w fun e w' => ∃ V, e = .returned V ∧ Same C.w w' ∧ RV P (C.at w') r V

def LoH (P : Program) (E : Env) (f : FuncId) : Code → Prop
  | .seq a b => LoH P E f a ∧ LoH P E f b
  | .cond _ x y => LoH P E f x ∧ LoH P E f y
  | .block _ b => LoH P E f b
  | .scope b => LoH P E f b
  | .loop b => (∀ ro S H x S' H', E.lo f ro (rid b) S H = some (x, S', H') → WpTo P (.loop b) ro S H x S' H') ∧ LoH P E f b
  | .rangeFunc _ _ a b => LoH P E f a ∧ LoH P E f b
  | _ => True

def Enters (P : Program) (k : FuncId) : Prop := ∀ Vs w, (callFunc k Vs).run P w = .ok (.enter k Vs) w

/-- What a call leaves behind, seen from C. -/
structure CallTo (P : Program) (C C' : Ctx) (H' : List Row) (p : PV) (V : Value) : Prop where
  H : C'.H = H'
  ext : Ext C C'
  rh : RH P C'
  rv : RV P C' p V

/-- The contract of a call on rows. -/
def RCall (P : Program) (ro : Nat) (k : FuncId) (args : List PV) (H : List Row) (p : PV) (H' : List Row) : Prop :=
  ∀ (C : Ctx), C.H = H → C.ro = ro → RH P C → ∀ Vs : Array Value, Cs P C args Vs → Calls P k Vs C.w fun e w' => ∃ V C', e = .returned V ∧ C'.w = w' ∧ CallTo P C C' H' p V

structure EnvOK (P : Program) (E : Env) : Prop where
  ent : ∀ k args r, E.ora k args = some r → Enters P k
  cal : ∀ ro k args H p H', E.cal ro k args H = some (p, H') → Enters P k ∧ RCall P ro k args H p H'
  ora : ∀ k args r, E.ora k args = some r → PCall P k args r
  lo : ∀ k fn b, P.funcs[k]? = some fn → fn.body = some b → LoH P E k b

theorem LoH.sub {P : Program} {E : Env} {f : FuncId} {c b : Code} (h : SubC c b) : LoH P E f b → LoH P E f c := by
  induction h with
  | here => exact id
  | seq1 _ ih => exact fun h => ih h.1
  | seq2 _ ih => exact fun h => ih h.2
  | cond1 _ ih => exact fun h => ih h.1
  | cond2 _ ih => exact fun h => ih h.2
  | block _ ih => exact fun h => ih h
  | loop _ ih => exact fun h => ih h.2
  | scope _ ih => exact fun h => ih h
  | range1 _ ih => exact fun h => ih h.1
  | range2 _ ih => exact fun h => ih h.2
theorem EnvOK.loh {P : Program} {E : Env} (hE : EnvOK P E) {f : FuncId} {c : Code} (h : SubCode P f c) : LoH P E f c :=
  let ⟨fn, b, h1, h2, h3⟩ := h; LoH.sub h3 (hE.lo f fn b h1 h2)
theorem SubCode.sub {P : Program} {f : FuncId} {c d : Code} (h : SubCode P f c) (k : SubC d c) : SubCode P f d :=
  let ⟨fn, b, h1, h2, h3⟩ := h; ⟨fn, b, h1, h2, k.trans h3⟩

def ExSound (P : Program) (_E : Env) (ex : Ex) : Prop :=
  ∀ ro f c S H x S' H', ex ro f c S H = some (x, S', H') → SubCode P f c → WpTo P c ro S H x S' H'

theorem frz_all {P : Program} {C : Ctx} (hR : RH P C) {h ro : Nat} (hh : h ≤ C.H.length) {args : List PV} {Vs : Array Value} (hv : Cs P C args Vs) (hm : mlts h (frzs C.H h args) = true) : Cs P (C.cut h False ro) (frzs C.H h args) Vs := by
  refine ⟨by rw [frzs_length]; exact hv.1, fun j c v h1 h2 => ?_⟩
  have hmj := mlts_get hm h1
  rw [frzs_get] at h1
  obtain ⟨q, hq, rfl⟩ := Option.map_eq_some_iff.1 h1
  exact (hv.2 j q v hq h2).frz hR hh hmj

theorem frzs_same (H : List Row) : ∀ (ps : List PV), mlts 0 ps = true → frzs H 0 ps = ps
  | [], _ => rfl
  | p :: ps, h => by
    simp only [mlts, Bool.and_eq_true] at h
    simp only [frzs]
    rw [frzs_same H ps h.2, frz_same H p h.1]
  where
  frz_same (H : List Row) : ∀ (p : PV), mlt 0 p = true → frz H 0 p = p
    | .sl i n k len, h => by simp [mlt] at h
    | .agg cs, h => by simp only [frz]; rw [frzs_same H cs (by simpa [mlt] using h)]
    | .tup cs, h => by simp only [frz]; rw [frzs_same H cs (by simpa [mlt] using h)]
    | .ptr _ _ _ _, _ => rfl
    | .lptr _ _ _, _ => rfl
    | .lst _ _ _, _ => rfl
    | .fn _ _ _, _ => rfl
    | .ifc _ _, _ => rfl
    | .val _, _ => rfl
    | .any, _ => rfl
    | .yld _, h => by simp [mlt] at h

mutual
theorem mlt_mono {h k : Nat} (hk : h ≤ k) : ∀ (p : PV), mlt h p = true → mlt k p = true
  | .sl i n _ len, hm => by simp only [mlt, decide_eq_true_eq] at hm ⊢; omega
  | .ptr i _ _ _, hm => by simp only [mlt, decide_eq_true_eq] at hm ⊢; omega
  | .agg cs, hm => by simp only [mlt] at hm ⊢; exact mlts_mono hk cs hm
  | .tup cs, hm => by simp only [mlt] at hm ⊢; exact mlts_mono hk cs hm
  | .lptr _ _ _, _ => rfl
  | .lst _ _ _, _ => rfl
  | .fn _ a b, hm => by simp only [mlt, Bool.and_eq_true] at hm ⊢; exact ⟨mlts_mono hk a hm.1, mlts_mono hk b hm.2⟩
  | .ifc _ v, hm => by simp only [mlt] at hm ⊢; exact mlt_mono hk v hm
  | .val _, _ => rfl
  | .any, _ => rfl
  | .yld i, hm => by simp only [mlt, decide_eq_true_eq] at hm ⊢; omega
theorem mlts_mono {h k : Nat} (hk : h ≤ k) : ∀ (ps : List PV), mlts h ps = true → mlts k ps = true
  | [], _ => rfl
  | p :: ps, hm => by simp only [mlts, Bool.and_eq_true] at hm ⊢; exact ⟨mlt_mono hk p hm.1, mlts_mono hk ps hm.2⟩
end

theorem callO_mlt {E : Env} {k : FuncId} {args : List PV} {r : PV} {H : List Row} (h : callO E k args H = some r) : mlt 0 r = true := by
  unfold callO at h
  split at h
  · split at h
    · rename_i hc
      cases h
      simp only [Bool.and_eq_true] at hc
      exact hc.1.2
    · cases h
  · cases h

/-- A call by contract. -/
theorem callO_sound {P : Program} {E : Env} (hE : EnvOK P E) {k : FuncId} {args : List PV} {r : PV} {C : Ctx} (hR : RH P C) {Vs : Array Value} (hv : Cs P C args Vs) (h : callO E k args C.H = some r) :
    Calls P k Vs C.w fun e w' => ∃ V, e = .returned V ∧ Same C.w w' ∧ RV P (C.at w') r V := by
  unfold callO at h
  split at h
  · rename_i r' hr
    split at h
    · rename_i hc
      cases h
      simp only [Bool.and_eq_true, Bool.or_eq_true] at hc
      obtain ⟨⟨h1, _⟩, h2⟩ := hc
      rcases h2 with hp | hm
      · have hR0 := hR.cut (h := 0) (ro := 0) (hide := False) (Nat.zero_le _) (Nat.le_refl _) (by simp [rowsOk])
        have hv0 := frz_all (ro := 0) hR (Nat.zero_le _) hv h1
        refine (hE.ora k _ r hr _ hR0 Vs hv0).mono ?_
        rintro e w' ⟨V, rfl, hs, hrv⟩
        exact ⟨V, rfl, hs, hrv.plain hp⟩
      · rw [frzs_same _ _ hm] at hr
        exact hE.ora k args r hr C hR Vs hv
    · cases h
  · cases h

def resSem (a : Act) (r : ResultVar) : Sem Value :=
  match r with
  | .tmp t => pure (a.tmps.getD t undef)
  | .cell x t => do loadVar t (← asAddr (a.tmps.getD x undef))
theorem results_eq (fn : Func) (a : Act) : results fn a.tmps = (do
    let vs ← fn.results.mapM (resSem a)
    pure (if h : vs.size = 1 then vs[0] else .tuple vs)) := rfl

theorem resOne_sound {P : Program} {C : Ctx} {S : List PV} {a : Act} {r : ResultVar} {p : PV} (hR : RH P C) (hs : RSl P C S a.tmps) (h : resOne P S C.H r = some p) :
    ∃ V, (resSem a r).run P C.w = .ok V C.w ∧ RV P C p V := by
  cases r with
  | tmp t =>
    simp only [resOne, Option.some.injEq] at h
    subst h
    exact ⟨_, rfl, hs.ev (.tmp t)⟩
  | cell x t =>
    simp only [resOne] at h
    split at h
    · rename_i hok
      have hx : RV P C (S.getD x (.val undef)) (a.tmps.getD x undef) := hs.ev (.tmp x)
      have hSub : Sub C.H C := fun i r hr => hr
      obtain ⟨ad, e1, _⟩ := addOff_sound (d := 0) hSub hx hok
      obtain ⟨V, g1, g2⟩ := loadQ_sound hR hSub hx h
      refine ⟨V, ?_, g2⟩
      simp only [e1, Instr.loadAt, Instr.sureAddr, Sem.run_bind, Sem.run_pure, Result.andThen_ok] at g1
      simp only [resSem, e1, asAddr, Sem.run_bind, Sem.run_pure, Result.andThen_ok]
      exact g1
    · cases h

theorem resQ_sound {P : Program} {C : Ctx} {fn : Func} {S : List PV} {a : Act} {p : PV} (hR : RH P C) (hs : RSl P C S a.tmps) (h : resQ P fn S C.H = some p) :
    ∃ V, (results fn a.tmps).run P C.w = .ok V C.w ∧ RV P C p V := by
  have key : ∀ (rs : List ResultVar) (ps : List PV), resAll P S C.H rs = some ps → ∃ Vs : List Value, (rs.mapM (resSem a)).run P C.w = .ok Vs C.w ∧
      Vs.length = ps.length ∧ ∀ (j : Nat) p v, ps[j]? = some p → Vs[j]? = some v → RV P C p v := by
    intro rs
    induction rs with
    | nil => intro ps h; simp only [resAll, Option.some.injEq] at h; subst h; exact ⟨[], by simp, rfl, fun j p v h => by simp at h⟩
    | cons r rs ih =>
      intro ps h
      simp only [resAll] at h
      split at h
      · rename_i p1 ps1 h1 h2
        cases h
        obtain ⟨V, g1, g2⟩ := resOne_sound hR hs h1
        obtain ⟨Vs, g3, g4, g5⟩ := ih ps1 h2
        refine ⟨V :: Vs, ?_, by simp [g4], fun j p v q1 q2 => ?_⟩
        · rw [List.mapM_cons]
          simp only [Sem.run_bind, g1, Result.andThen_ok, g3, Sem.run_pure]
        · cases j with
          | zero => simp at q1 q2; subst q1; subst q2; exact g2
          | succ j => exact g5 j p v (by simpa using q1) (by simpa using q2)
      · cases h
  unfold resQ at h
  have hm : ∀ ps Vs, resAll P S C.H fn.results.toList = some ps → (fn.results.toList.mapM (resSem a)).run P C.w = .ok Vs C.w →
      (results fn a.tmps).run P C.w = .ok (if h : Vs.toArray.size = 1 then Vs.toArray[0] else .tuple Vs.toArray) C.w := by
    intro ps Vs _ hV
    rw [results_eq]
    simp only [Array.mapM_eq_mapM_toList]
    simp only [Sem.run_bind, Sem.run_map, hV, Result.andThen_ok, Sem.run_pure]
  split at h
  · rename_i q hq
    cases h
    obtain ⟨Vs, g1, g2, g3⟩ := key _ _ hq
    obtain ⟨V, rfl⟩ : ∃ V, Vs = [V] := by
      match Vs, g2 with | [V], _ => exact ⟨V, rfl⟩
    exact ⟨V, hm _ _ hq g1, g3 0 _ _ rfl rfl⟩
  · rename_i ps hne hps
    cases h
    obtain ⟨Vs, g1, g2, g3⟩ := key _ _ hps
    refine ⟨.tuple Vs.toArray, ?_, .tup (by simp [g2]) fun j c v q1 q2 => g3 j c v q1 (by simpa using q2)⟩
    rw [hm _ _ hps g1]
    have : ¬ Vs.toArray.size = 1 := by
      intro h1
      have hl : ps.length = 1 := by rw [← g2]; simpa using h1
      match ps, hl with | [q], _ => exact hne q rfl
    simp only [this, dif_neg, not_false_eq_true]
  · cases h

/-- A call that is walked into. -/
theorem callX_sound {P : Program} {E : Env} (_hE : EnvOK P E) {ex : Ex} (hX : ExSound P E ex) {ro : Nat} {k : FuncId} {args : List PV} {p : PV} {H' : List Row} {C : Ctx} (hR : RH P C) (hro : C.ro = ro) {Vs : Array Value} (hv : Cs P C args Vs)
    (h : callX P ex ro k args C.H = some (p, H')) : (∀ w, (callFunc k Vs).run P w = .ok (.enter k Vs) w) ∧ Calls P k Vs C.w fun e w' => ∃ V C', e = .returned V ∧ C'.w = w' ∧ CallTo P C C' H' p V := by
  unfold callX at h
  split at h
  · rename_i fn hfn
    split at h
    · rename_i b hb
      split at h
      · cases h
      · rename_i hname
        refine ⟨fun w => by simp [callFunc, hfn, hb]; simpa using hname, ?_⟩
        have hsl : RSl P C (args ++ List.replicate (fn.ntmps - args.length) (.val undef)) (Vs ++ Array.replicate (fn.ntmps - Vs.size) undef) := by
          refine ⟨by simp [hv.1], fun i q u h1 h2 => ?_⟩
          rw [List.getElem?_append] at h1
          rw [Array.getElem?_append] at h2
          rw [hv.1] at h2
          split at h1
          · rename_i hi; rw [if_pos hi] at h2; exact hv.2 i q u h1 h2
          · rename_i hi
            rw [if_neg hi] at h2
            rw [List.getElem?_replicate] at h1
            rw [Array.getElem?_replicate] at h2
            split at h1
            · rename_i hj
              rw [if_pos hj] at h2
              cases h1; cases h2
              exact .val
            · cases h1
        have body : ∀ x S' H'', ex ro k b (args ++ List.replicate (fn.ntmps - args.length) (.val undef)) C.H = some (x, S', H'') → (x = .normal ∨ x = .ret) → resQ P fn S' H'' = some p → H'' = H' →
            Calls P k Vs C.w fun e w' => ∃ V C', e = .returned V ∧ C'.w = w' ∧ CallTo P C C' H' p V := by
          intro x S' H'' hex hx hres hH
          subst hH
          refine fr_calls.1 (callsIn_of_wp_marks (F := Fr none) (n := 0) hfn hb trivial ?_)
          refine hX ro k b _ C.H x S' H'' hex ⟨fn, b, hfn, hb, .here⟩ none C _ rfl hro hR hsl (.none _) _ fun a' C' hd hH2 hxt hR' hs' => ?_
          subst hH2
          obtain ⟨rs, hn, hd1, hd2⟩ := hd
          have key : LeavesInM (Fr none) 0 P fn a'.tmps (fun e w' => ∃ V C'', e = .returned V ∧ C''.w = w' ∧ CallTo P C C'' C'.H p V) a'.defers .returning C'.w := by
            rw [hd1, List.append_nil]
            refine leaves_marks rs C'.w hn (fun r hr => (hd2 r hr).2) fun w' hq hw => ?_
            obtain ⟨V, g1, g2⟩ := resQ_sound (fn := fn) (C := C'.at w') (hR'.qt hq) (hs'.qt hq) hres
            exact ⟨V, g1, V, C'.at w', rfl, rfl, rfl, hxt.qt hq fun b hb => hw b fun hm => by have := (hd2 b hm).1; omega, hR'.qt hq, g2⟩
          rcases hx with rfl | rfl
          · exact key
          · exact key
        split at h
        · rename_i S' H'' hex
          obtain ⟨q, hq, he⟩ := Option.map_eq_some_iff.1 h
          cases he
          exact body _ S' _ hex (.inl rfl) hq rfl
        · rename_i S' H'' hex
          obtain ⟨q, hq, he⟩ := Option.map_eq_some_iff.1 h
          cases he
          exact body _ S' _ hex (.inr rfl) hq rfl
        · cases h
    · cases h
  · cases h

theorem callI_sound {P : Program} {E : Env} (hE : EnvOK P E) {ex : Ex} (hX : ExSound P E ex) {ro : Nat} {k : FuncId} {args : List PV} {p : PV} {H' : List Row} {C : Ctx} (hR : RH P C) (hro : C.ro = ro) {Vs : Array Value} (hv : Cs P C args Vs)
    (h : callI P E ex ro k args C.H = some (p, H')) : (∀ w, (callFunc k Vs).run P w = .ok (.enter k Vs) w) ∧ Calls P k Vs C.w fun e w' => ∃ V C', e = .returned V ∧ C'.w = w' ∧ CallTo P C C' H' p V := by
  unfold callI at h
  split at h
  · rename_i r hr
    cases h
    obtain ⟨g1, g2⟩ := hE.cal _ _ _ _ _ _ hr
    exact ⟨fun w => g1 Vs w, g2 C rfl hro hR Vs hv⟩
  · exact callX_sound hE hX hR hro hv h

theorem settle_sound {P : Program} {C C' : Ctx} (hR : RH P C) {H' : List Row} {p q : PV} {H2 : List Row} {V : Value} (h : CallTo P C C' H' p V) (hs : settle C.H.length p H' = (q, H2)) : ∃ C2, C2.w = C'.w ∧ CallTo P C C2 H2 q V := by
  unfold settle at hs
  split at hs
  · rename_i hc
    cases hs
    simp only [Bool.and_eq_true] at hc
    have hlen := h.ext.len
    have hH := h.H
    subst hH
    refine ⟨C'.cut C.H.length False C'.ro, rfl, rfl, h.ext.cut (Nat.le_refl _) hlen hR.ro, h.rh.cut hlen (by rw [h.ext.ro]; exact hR.ro) hc.2, h.rv.frz h.rh hlen hc.1⟩
  · cases hs
    exact ⟨C', rfl, h⟩

theorem callO_enters {P : Program} {E : Env} (hE : EnvOK P E) {k : FuncId} {args : List PV} {r : PV} {H : List Row} (h : callO E k args H = some r) : Enters P k := by
  unfold callO at h
  split at h
  · rename_i r' hr; exact hE.ent k _ r' hr
  · cases h

theorem callG_sound {P : Program} {E : Env} (hE : EnvOK P E) {ex : Ex} (hX : ExSound P E ex) {ro : Nat} {k : FuncId} {args : List PV} {p : PV} {H' : List Row} {C : Ctx} (hR : RH P C) (hro : C.ro = ro) {Vs : Array Value} (hv : Cs P C args Vs)
    (h : callG P E ex ro k args C.H = some (p, H')) :
    (∀ w, (callFunc k Vs).run P w = .ok (.enter k Vs) w) ∧ Calls P k Vs C.w fun e w' => ∃ V C', e = .returned V ∧ C'.w = w' ∧ CallTo P C C' H' p V := by
  unfold callG at h
  split at h
  · rename_i r hr
    cases h
    refine ⟨callO_enters hE hr Vs, (callO_sound hE hR hv hr).mono ?_⟩
    rintro e w' ⟨V, rfl, hs, hrv⟩
    exact ⟨V, C.at w', rfl, rfl, rfl, hs.ext, hs.rh hR, hrv⟩
  · split at h
    · rename_i q H2 hI
      obtain ⟨g1, g2⟩ := callI_sound hE hX hR hro hv hI
      refine ⟨g1, g2.mono ?_⟩
      rintro e w' ⟨V, C', rfl, rfl, hc⟩
      split at h
      · cases h; exact ⟨V, C', rfl, rfl, hc⟩
      · obtain ⟨C2, e1, e2⟩ := settle_sound hR hc (Option.some.inj h)
        exact ⟨V, C2, rfl, e1, e2⟩
    · cases h

/-- A call over rows that are read only. -/
theorem callE_sound {P : Program} {E : Env} (hE : EnvOK P E) {ex : Ex} (hX : ExSound P E ex) {k : FuncId} {args : List PV} {p : PV} {H : List Row} {C : Ctx} (hR : RH P C) (hHC : C.H.take H.length = H) {Vs : Array Value} (hv : Cs P C args Vs)
    (h : callE P E ex k args H = some p) :
    (∀ w, (callFunc k Vs).run P w = .ok (.enter k Vs) w) ∧ Calls P k Vs C.w fun e w' => ∃ V, e = .returned V ∧ Same C.w w' ∧ RV P (C.at w') p V := by
  have hle : H.length ≤ C.H.length := by
    have := congrArg List.length hHC
    simp only [List.length_take] at this
    omega
  unfold callE at h
  split at h
  case isFalse => cases h
  rename_i hmk
  simp only [Bool.and_eq_true] at hmk
  obtain ⟨hm, hok⟩ := hmk
  have hRc : RH P (C.cut H.length True H.length) := hR.cut hle (Nat.le_refl _) (by rw [hHC]; exact hok)
  have hvc : Cs P (C.cut H.length True H.length) args Vs := ⟨hv.1, fun j c v h1 h2 => (hv.2 j c v h1 h2).cut hle (mlts_get hm h1)⟩
  have hHe : (C.cut H.length True H.length).H = H := hHC
  split at h
  · rename_i r hr
    cases h
    refine ⟨callO_enters hE hr Vs, ?_⟩
    have := callO_sound hE hRc hvc (by rw [hHe]; exact hr)
    refine this.mono ?_
    rintro e w' ⟨V, rfl, hs, hrv⟩
    refine ⟨V, rfl, hs, ?_⟩
    exact RV.back (Ci := (C.cut H.length True H.length).at w') hle (Same.ext hs) hrv (mlt_mono (Nat.zero_le _) _ (callO_mlt hr))
  · · split at h
      · rename_i q H2 hI
        split at h
        · rename_i hq
          cases h
          obtain ⟨g1, g2⟩ := callI_sound hE hX (C := C.cut H.length True H.length) hRc rfl hvc (by rw [hHe]; exact hI)
          refine ⟨g1, g2.mono ?_⟩
          rintro e w' ⟨V, C', rfl, rfl, hc⟩
          refine ⟨V, rfl, back_same hc.ext, ?_⟩
          have hlen : H.length ≤ C'.H.length := by have := hc.ext.len; rw [hHe] at this; exact this
          have hH2 := hc.H
          subst hH2
          have h1 := hc.rv.frz (ro := C'.ro) hc.rh hlen hq
          have hx2 : Ext (C.cut H.length True H.length) (C'.cut H.length False C'.ro) := hc.ext.cut (by rw [hHe]; exact Nat.le_refl _) hlen (by rw [hHe]; exact Nat.le_refl _)
          exact RV.back (Ci := C'.cut H.length False C'.ro) hle hx2 h1 hq
        · cases h
      · cases h

theorem args_rv {P : Program} {C : Ctx} {S : List PV} {a : Act} {first cap : List PV} {F K : Array Value} {xs : Array Operand} (hF : Cs P C first F) (hK : Cs P C cap K) (hx : ∀ x ∈ xs, RV P C (ev S x) (a.eval x)) :
    Cs P C (first ++ xs.toList.map (ev S) ++ cap) (F ++ xs.map a.eval ++ K) := by
  have hm := ops_list (P := P) (C := C) (f := ev S) (g := a.eval) hx
  have app : ∀ {l1 l2 : List PV} {a1 a2 : Array Value}, Cs P C l1 a1 → Cs P C l2 a2 → Cs P C (l1 ++ l2) (a1 ++ a2) := by
    intro l1 l2 a1 a2 h1 h2
    refine ⟨by simp [h1.1, h2.1], fun j c v g1 g2 => ?_⟩
    rw [List.getElem?_append] at g1
    rw [Array.getElem?_append, h1.1] at g2
    split at g1
    · rename_i hj; rw [if_pos hj] at g2; exact h1.2 j c v g1 g2
    · rename_i hj; rw [if_neg hj] at g2; exact h2.2 _ c v g1 g2
  exact app (app hF ⟨hm.1, hm.2⟩) hK

/-- The run of a call of a function value. -/
theorem wp_call {r : Option Nat} {P : Program} {o : Oper} {a : Act} {w : World} {c : Call} {g : Operand} {k : FuncId} {F K : Array Value} {next : Act → World → Prop} {Q : Exit → Act → World → Prop} (ho : o.op = .call c) (hc : c.callee = .value g) (hg : a.eval g = .func (.func k) F K)
    (hent : ∀ w, (callFunc k (F ++ c.args.map a.eval ++ K)).run P w = .ok (.enter k (F ++ c.args.map a.eval ++ K)) w) {R : Ending → World → Prop} (hcall : Calls P k (F ++ c.args.map a.eval ++ K) w R)
    (hn : ∀ e w', R e w' → ∃ V, e = .returned V ∧ next (a.put o.dst V) w') : o.wpIn (Fr r) 0 P a w next Q := by
  refine ⟨fun _ _ => trivial, ?_⟩
  have hrun : (execOp a.eval o).run P w = .ok (.enter k (F ++ c.args.map a.eval ++ K)) w := by
    unfold execOp
    simp only [ho, resolve, hc, hg, Deferred.ofValue, Sem.run_bind, Sem.run_pure, Result.andThen_ok, invoke, hent]
  rw [semAt_value hrun (fun _ h => by cases h), Oper.uponIn_enter]
  refine ⟨fun h => (by cases h), fr_calls.2 (hcall.mono fun e w' he => ?_)⟩
  obtain ⟨V, rfl, h⟩ := hn e w' he
  exact h

/-- A round. -/
theorem yieldQ_sound {P : Program} {E : Env} {ex : Ex} (hX : ExSound P E ex) {ro i b : Nat} {args : List PV} {t : Bool} {H' : List Row} {C : Ctx} (hR : RH P C) (hro : C.ro = ro) {Vs : Array Value} (hv : Cs P C args Vs) (hρ : C.ρ i = some b)
    (h : yieldQ ex ro i args C.H = some (t, H')) (r : Option Nat) : ∃ rec, C.w.heap[b]? = some (.loop rec) ∧ Vs.size = rec.params.size ∧
      RoundIn (Fr r) 0 P b rec.fn ((rec.params.zip Vs).foldl (fun tmps (t, a) => tmps.setIfInBounds t a) rec.tmps) rec.assign rec.body C.w fun e w' => ∃ C', e = .returned (.bool t) ∧ C'.w = w' ∧ CallTo P C C' H' (.val (.bool t)) (.bool t) := by
  unfold yieldQ at h
  split at h
  case h_2 => cases h
  rename_i k hk
  split at h
  case isFalse => cases h
  rename_i hc
  simp only [Bool.and_eq_true, decide_eq_true_eq, beq_iff_eq] at hc
  split at h
  case h_2 => cases h
  rename_i S1 H1 hasg
  split at h
  case h_2 => cases h
  rename_i k1 H2 hk1 hH2
  obtain ⟨r0, z1, z2, z3⟩ := loopAt_some hk
  obtain ⟨⟨rec, m1, m2, m3, m4, m5, m6⟩, ha, hb⟩ := hR.lps i b r0 _ hρ z1 z2 z3
  simp only at m2 m3 m4 m5 ha hb
  refine ⟨rec, m1, by rw [hv.1, hc.2, m2], ?_⟩
  refine roundIn_of_wpIn (F := Fr r) (n := 0) trivial ?_
  show rec.assign.wpIn (Fr (some b)) 0 P _ _ _
  have hsl : RSl P C (setPs k.S0 k.ps.toList args) ((rec.params.zip Vs).foldl (fun tmps (t, a) => tmps.setIfInBounds t a) rec.tmps) := by
    have h0 := setPs_sound k.ps.toList args Vs.toList k.S0 rec.tmps m5 (by simp [hv.1]) (fun j c v h1 h2 => hv.2 j c v h1 (by simpa using h2))
    rw [← Array.foldl_toList, Array.toList_zip, m2]
    exact h0
  rw [m3]
  refine hX ro k.f k.asg _ C.H .normal S1 H1 hasg ha (some b) C _ rfl hro hR hsl (fun l hl => by cases hl; exact ⟨rec, m1⟩) _ fun a1 C1 _ hC1 hx1 hR1 hs1 => ?_
  subst hC1
  have hρ1 : C1.ρ i = some b := (hx1.lp i r0 _ z1 z2 z3).2 b hρ
  obtain ⟨r1, y1, y2, y3⟩ := loopAt_some hk1
  obtain ⟨⟨rec1, n1, n2, n3, n4, n5, n6⟩, ha1, hb1⟩ := hR1.lps i b r1 _ hρ1 y1 y2 y3
  obtain ⟨⟨r1', st1, y1', y2', y3'⟩, _⟩ := hx1.lp i r0 _ z1 z2 z3
  have e1 : k1 = k := by
    rw [y1] at y1'; cases y1'
    rw [y2] at y2'; cases y2'; rfl
  subst e1
  have hro1 : C1.ro ≤ i := by rw [hx1.ro, hro]; exact hc.1
  obtain ⟨hx2, hR2⟩ := setSt_sound (st := .busy) (rec' := { rec1 with state := .busy }) hR1 hH2 hρ1 hro1 n1 rfl rfl rfl rfl rfl
  refine ⟨_, run_beginRound n1 n6.1, ?_⟩
  split at h
  case h_2 => cases h
  rename_i x S3 H3 hbody
  rw [m4]
  refine hX ro k1.f k1.body S1 H2 x S3 H3 hbody hb (some b) (C1.turnL b { rec1 with state := .busy } H2) _ rfl (by rw [← hro, ← hx1.ro]; rfl) hR2 (hs1.mono hx2) (fun l hl => by cases hl; exact hx2.loop b rec1 n1) _ fun a3 C3 _ hC3 hx3 hR3 _ => ?_
  subst hC3
  have hρ3 : C3.ρ i = some b := by
    obtain ⟨_, q⟩ := hx1.lp i r0 _ z1 z2 z3
    obtain ⟨⟨r2', st2, w1, w2, w3⟩, q2⟩ := hx2.lp i r1 _ y1 y2 y3
    obtain ⟨_, q3⟩ := hx3.lp i r2' _ w1 w2 w3
    exact q3 b (q2 b (q b hρ))
  obtain ⟨rec3, hrec3⟩ := (hx1.trans (hx2.trans hx3)).loop b rec m1
  have hro3 : C3.ro ≤ i := by rw [hx3.ro, hx2.ro]; exact hro1
  have fin : ∀ (j : Option Code) (H4 : List Row) (st : LSt) (tb : Bool), tb = j.isNone → setSt C3.H i st = some H4 → (StB st { rec3 with state := if j.isNone then .ready else .done, pending := j }) →
      ∃ v w', (Instr.endRound b j).run P C3.w = .ok v w' ∧ ∃ C', Ending.returned v = .returned (.bool tb) ∧ C'.w = w' ∧ CallTo P C C' H4 (.val (.bool tb)) (.bool tb) := by
    intro j H4 st tb htb h4 hst
    obtain ⟨hx4, hR4⟩ := setSt_sound (st := st) (rec' := { rec3 with state := if j.isNone then .ready else .done, pending := j }) hR3 h4 hρ3 hro3 hrec3 rfl rfl rfl rfl hst
    exact ⟨_, _, run_endRound j hrec3, _, by rw [htb], rfl, rfl, hx1.trans (hx2.trans (hx3.trans hx4)), hR4, .val⟩
  cases x with
  | normal =>
    simp only [jumpOf] at h
    obtain ⟨H4, h4, he⟩ := Option.map_eq_some_iff.1 h
    cases he
    exact fin none _ .ready _ rfl h4 ⟨rfl, rfl⟩
  | exit id =>
    simp only [jumpOf] at h
    obtain ⟨H4, h4, he⟩ := Option.map_eq_some_iff.1 h
    cases he
    exact fin (some (.exit id)) _ (.done (.exit id)) _ rfl h4 ⟨rfl, rfl⟩
  | ret =>
    simp only [jumpOf] at h
    obtain ⟨H4, h4, he⟩ := Option.map_eq_some_iff.1 h
    cases he
    exact fin (some .ret) _ (.done .ret) _ rfl h4 ⟨rfl, rfl⟩

/-- The run of a call of yield. -/
theorem wp_yield {r : Option Nat} {P : Program} {o : Oper} {a : Act} {w : World} {c : Call} {g : Operand} {b : Nat} {rec : Loop} {next : Act → World → Prop} {Q : Exit → Act → World → Prop} (ho : o.op = .call c) (hc : c.callee = .value g) (hg : a.eval g = .func (.yield b) #[] #[])
    (hrec : w.heap[b]? = some (.loop rec)) (hsz : (c.args.map a.eval).size = rec.params.size) {R : Ending → World → Prop} (hcall : RoundIn (Fr r) 0 P b rec.fn ((rec.params.zip (c.args.map a.eval)).foldl (fun tmps (t, a) => tmps.setIfInBounds t a) rec.tmps) rec.assign rec.body w R)
    (hn : ∀ e w', R e w' → ∃ V, e = .returned V ∧ next (a.put o.dst V) w') : o.wpIn (Fr r) 0 P a w next Q := by
  refine ⟨fun _ _ => trivial, ?_⟩
  have hrun : (execOp a.eval o).run P w = .ok (.round b rec.fn ((rec.params.zip (c.args.map a.eval)).foldl (fun tmps (t, a) => tmps.setIfInBounds t a) rec.tmps) rec.assign rec.body) w := by
    unfold execOp
    simp only [ho, resolve, hc, hg, Deferred.ofValue, Sem.run_bind, Sem.run_pure, Result.andThen_ok, invoke, Array.empty_append]
    exact run_yield hrec hsz
  rw [semAt_value hrun (fun _ h => by cases h), Oper.uponIn_round]
  refine ⟨fun h => (by cases h), ?_⟩
  obtain ⟨h1, h2⟩ := hcall
  refine ⟨h1, fun cc cs hr => ?_⟩
  obtain ⟨e, w', hR, hco⟩ := h2 cc cs hr
  obtain ⟨V, rfl, h⟩ := hn e w' hR
  exact ⟨.returned V, w', h, hco⟩

theorem wp_value {r : Option Nat} {P : Program} {o : Oper} {a : Act} {w w' : World} {v : Value} {next : Act → World → Prop} {Q : Exit → Act → World → Prop} (h : (execOp a.eval o).run P w = .ok (.value v) w') (hn : next (a.put o.dst v) w') : o.wpIn (Fr r) 0 P a w next Q := by
  refine ⟨fun _ _ => trivial, ?_⟩
  rw [semAt_value h (fun _ h => by cases h)]
  exact hn

theorem sub_self (C : Ctx) : Sub C.H C := fun _ _ h => h

theorem newQ_live {P : Program} {H : List Row} {f : Operand → PV} {op : Op} {p : PV} {r : Row} (h : newQ P H f op = some (p, r)) : r.live = true := by
  cases op <;> simp only [newQ, reduceCtorEq] at h
  case convert src dst x =>
    split at h
    · split at h
      · cases h; rfl
      · cases h
    · cases h
  case alloc T =>
    split at h
    · split at h
      · cases h; rfl
      · cases h
    · cases h
  case box T x =>
    split at h
    · cases h; rfl
    · cases h
  case buildSlice T len parts =>
    simp only [Option.map_eq_some_iff] at h
    obtain ⟨y, _, h⟩ := h
    cases h; rfl
  case makeSlice T l c =>
    split at h
    · split at h
      · split at h
        · cases h; rfl
        · cases h
      · cases h
    · cases h

/-- One operation, in turn. -/
theorem stepS_sound {r : Option Nat} {P : Program} {E : Env} (hE : EnvOK P E) {ex : Ex} (hX : ExSound P E ex) {ro : Nat} {S : List PV} {o : Oper} {p : PV} {H' : List Row} {C : Ctx} {a : Act} (hR : RH P C) (hro : C.ro = ro) (hs : RSl P C S a.tmps)
    (h : stepS P E ex ro S C.H o = some (p, H')) {next : Act → World → Prop} {Q : Exit → Act → World → Prop} (hn : ∀ v C', CallTo P C C' H' p v → next (a.put o.dst v) C'.w) : o.wpIn (Fr r) 0 P a C.w next Q := by
  unfold stepS at h
  split at h
  · rename_i q hq
    cases h
    obtain ⟨v, g1, g2⟩ := popQ_sound hR (sub_self C) (fun x _ => hs.ev x) hq
    exact wp_value g1 (hn v C ⟨rfl, .refl C, hR, g2⟩)
  · split at h
    · rename_i q r hq
      cases h
      have hx1 := more_ext hR r
      have hR1 := more_rh hR r
      have hlen : (C.more r).H.length = C.H.length + 1 := by simp [Ctx.more]
      have hlive : r.live = true := newQ_live hq
      have hrow : (C.more r).row? C.H.length = some r := by
        show rowAt (C.H ++ [r]) C.H.length = some r
        unfold rowAt
        simp [hlive]
      obtain ⟨v, C', g1, g2⟩ := newQ_sound (C := C.more r) (H := C.H) (f := ev S) (g := a.eval) hR1 (by omega) (hR.ρ_none (Nat.le_refl _)) hR.ro hrow (fun x _ => (hs.ev x).mono hx1) hq
      exact wp_value g1 (hn v C' ⟨by rw [g2.H]; rfl, hx1.trans g2.ext, g2.rh, g2.rv⟩)
    · split at h
      · -- a store
        rename_i T x y ho
        obtain ⟨H2, h2, he⟩ := Option.map_eq_some_iff.1 h
        cases he
        subst hro
        obtain ⟨C', g1, g2, _⟩ := storeQ_sound hR (hs.ev x) (hs.ev y) h2
        have := hn undef C' ⟨g2.H, g2.ext, g2.rh, .val⟩
        refine ⟨fun _ _ => trivial, ?_⟩
        have hrun : (execOp a.eval o).run P C.w = .ok .skip C'.w := by
          unfold execOp
          simp only [ho, Sem.run_bind, g1, Result.andThen_ok, Sem.run_pure]
        rw [semAt_value hrun (fun _ h => by cases h)]
        exact this
      · -- a call
        rename_i c ho
        split at h
        · rename_i hc
          split at h
          · rename_i x y hargs
            subst hro
            obtain ⟨v, C', g1, g2, g3, _⟩ := appendQ_sound hR (hs.ev x) (hs.ev y) h o.type
            have hca : c.args = #[x, y] := by apply Array.ext'; simpa using hargs
            refine wp_value (v := v) (w' := C'.w) ?_ (hn v C' ⟨g2.H, g2.ext, g2.rh, g3⟩)
            unfold execOp
            simp only [ho, resolve, hc, hca, Sem.run_bind, Sem.run_pure, Result.andThen_ok, invoke, builtin, List.map_toArray, List.map_cons, List.map_nil, g1]
          · cases h
        · rename_i g hc
          split at h
          · rename_i k first cap hg
            have hgv := hs.ev g
            rw [hg] at hgv
            generalize hG : a.eval g = G at hgv
            cases hgv with
            | fn q1 q2 q3 q4 =>
              have hargs := args_rv (a := a) (S := S) (xs := c.args) ⟨q1, q3⟩ ⟨q2, q4⟩ (fun x _ => hs.ev x)
              obtain ⟨e1, e2⟩ := callG_sound hE hX hR hro hargs h
              exact wp_call ho hc hG e1 e2 fun e w' ⟨V, C', he, hw, hct⟩ => ⟨V, he, by rw [← hw]; exact hn V C' hct⟩
          · rename_i i hg
            obtain ⟨⟨t, H2⟩, h2, he⟩ := Option.map_eq_some_iff.1 h
            cases he
            have hgv := hs.ev g
            rw [hg] at hgv
            generalize hG : a.eval g = G at hgv
            cases hgv with
            | yld hi hl hb =>
              have hargs : Cs P C (c.args.toList.map (ev S)) (c.args.map a.eval) := by
                have hm := ops_list (P := P) (C := C) (f := ev S) (g := a.eval) (xs := c.args) (fun x _ => hs.ev x)
                exact ⟨hm.1, hm.2⟩
              obtain ⟨rec, e1, e2, e3⟩ := yieldQ_sound hX hR hro hargs hb h2 r
              exact wp_yield ho hc hG e1 e2 e3 fun e w' ⟨C', he, hw, hct⟩ => ⟨_, he, by rw [← hw]; exact hn _ C' hct⟩
          · cases h
        · subst hro
          obtain ⟨v, C', g1, g2, g3⟩ := moreQ_sound (g := a.eval) hR (fun x _ => hs.ev x) h
          exact wp_value g1 (hn v C' ⟨g2.H, g2.ext, g2.rh, g3⟩)
      · subst hro
        obtain ⟨v, C', g1, g2, g3⟩ := moreQ_sound (g := a.eval) hR (fun x _ => hs.ev x) h
        exact wp_value g1 (hn v C' ⟨g2.H, g2.ext, g2.rh, g3⟩)
end Go.Hx
