/- Hx: a loop's contract by a model of its rounds: states of a type, what one round does, what all come to. -/
import Derived.Test.YtadcoepikgjgmaaHxShape
namespace Go.Hx
noncomputable def bod (fn : Func) : Code := fn.body.getD .skip
noncomputable def lpb (fn : Func) (i : Nat) : Code := ((loops (bod fn)).filter fun b => rid b == i).headD .skip
theorem byShape_inv {s : St} {f : List Lf → List Lf → Option (DT (PX × List PV × List Row))} {ro : Nat} {S : List PV} {H : List Row} {d : DT (PX × List PV × List Row)} (h : byShape s f ro S H = some d) : ∃ a b, ro = 0 ∧ s.get S (nrmH H) = some (a, b) ∧ f a b = some d := by
  unfold byShape at h
  split at h
  · split at h
    · rename_i x hx; exact ⟨x.1, x.2, rfl, hx, h⟩
    · cases h
  · cases h
theorem run_br {α : Type} {b : Bool} {a r : α} (h : (DT.br b (.leaf a) .no).run = some r) : b = true ∧ a = r := by
  cases b
  · cases h
  · exact ⟨rfl, Option.some.inj h⟩
abbrev i64 : Sh := .cell (.int .i64)
abbrev i64s (n : Nat) : Sh := .agg (List.replicate n (.int .i64))

/-! Rows, some of them written out. -/
def nrmIf (b : Bool) (r : Row) : Row := match b with | true => nrmRow r | false => r
def nrmA (sel : List Bool) (H : List Row) : List Row := H.zipIdx.map fun x => nrmIf (sel.getD x.2 false) x.1
theorem nrmA_get (sel : List Bool) (H : List Row) (i : Nat) : (nrmA sel H)[i]? = H[i]?.map (nrmIf (sel.getD i false)) := by
  simp only [nrmA, List.getElem?_map, List.getElem?_zipIdx, Nat.zero_add, Option.map_map]
  congr 1
theorem nrmIf_live (b : Bool) (r : Row) : (nrmIf b r).live = r.live := by cases b <;> simp [nrmIf, nrmRow_live]
theorem nrmIf_shp (b : Bool) (r : Row) : ShpR r (nrmIf b r) := by
  cases b
  · exact ⟨rfl, rfl, rfl, rfl⟩
  · exact nrmRow_shp r
theorem nrmIf_dead {b : Bool} {r : Row} (h : r.live = false) : nrmIf b r = r := by
  cases b
  · rfl
  · show nrmRow r = r
    unfold nrmRow; rw [h]
theorem nrmA_row {C : Ctx} (sel : List Bool) (i : Nat) : ({ C with H := nrmA sel C.H } : Ctx).row? i = (C.row? i).map (nrmIf (sel.getD i false)) := by
  show rowAt (nrmA sel C.H) i = (rowAt C.H i).map _
  unfold rowAt
  rw [nrmA_get]
  cases C.H[i]? with
  | none => rfl
  | some r =>
    show (if (nrmIf _ r).live = true then some (nrmIf _ r) else none) = Option.map _ (if r.live = true then some r else none)
    rw [nrmIf_live]
    by_cases hl : r.live = true
    · rw [if_pos hl, if_pos hl]; rfl
    · rw [if_neg hl, if_neg hl]; rfl
theorem nrmA_shp (sel : List Bool) (C : Ctx) : Shp C { C with H := nrmA sel C.H } := by
  refine ⟨rfl, rfl, rfl, rfl, by simp [nrmA], fun i r' hr => ?_, fun i r hr => ?_, fun i r hr hl => ?_, fun i r hr hl => ?_⟩
  · rw [nrmA_row] at hr
    obtain ⟨r, a, rfl⟩ := Option.map_eq_some_iff.1 hr
    exact ⟨r, a, nrmIf_shp _ r⟩
  · exact ⟨_, by rw [nrmA_row, hr]; rfl, nrmIf_shp _ r⟩
  · show (nrmA sel C.H)[i]? = _
    rw [nrmA_get, hr, Option.map_some, nrmIf_dead hl]
  · have hr' : (nrmA sel C.H)[i]? = some r := hr
    rw [nrmA_get] at hr'
    obtain ⟨q, a, b⟩ := Option.map_eq_some_iff.1 hr'
    have : q.live = false := by rw [← nrmIf_live (sel.getD i false), b]; exact hl
    rw [nrmIf_dead this] at b
    rw [a]
    exact congrArg some b
theorem wpTo_nrmA {P : Program} {c : Code} (sel : List Bool) {S S' : List PV} {H H' : List Row} {x : PX} (h : WpTo P c 0 S (nrmA sel H) x S' H') : WpTo P c 0 S H x S' H' := by
  intro r C a hH hro hR hs hro2 Q hQ
  subst hH
  have hR1 : RH P { C with H := nrmA sel C.H } := hR.shp (nrmA_shp sel C) fun i b q h1 h2 => by
    rw [nrmA_row] at h2
    obtain ⟨q0, a0, rfl⟩ := Option.map_eq_some_iff.1 h2
    have hB := hR.blk i b q0 h1 a0
    have hB2 : RB P C b (nrmIf (sel.getD i false) q0) := by
      cases sel.getD i false
      · exact hB
      · exact hB.nrm
    exact hB2.shp (nrmA_shp sel C)
  exact h r { C with H := nrmA sel C.H } a rfl hro hR1 (hs.shp (nrmA_shp sel C)) hro2 Q fun a' C' hd hH' hx hR' hs' => hQ a' C' hd hH' (Ext.shp0 (nrmA_shp sel C) hro hx) hR' hs'

/-- What a loop comes to, by the states of a model: those with 'pre' come to 'fin'; 'sel': the rows that are written out first. -/
def byModel {σ : Type} (sel : List Bool) (get : List PV → List Row → Option σ) (pre : σ → Bool) (fin : σ → DT (PX × List PV × List Row)) : Nat → List PV → List Row → Option (DT (PX × List PV × List Row))
  | 0, S, H => match get S (nrmA sel H) with | some s => some (.br (pre s) (fin s) .no) | none => none
  | _ + 1, _, _ => none
/-- States by one shape; by either. -/
def ofSt {σ : Type} (sh : St) (dec : List Lf → List Lf → Option σ) (S : List PV) (H : List Row) : Option σ := match sh.get S H with | some x => dec x.1 x.2 | none => none
def orGet {σ : Type} (g g' : List PV → List Row → Option σ) (S : List PV) (H : List Row) : Option σ := match g S H with | some s => some s | none => g' S H
theorem ofSt_emb {σ : Type} {sh : St} {dec : List Lf → List Lf → Option σ} {emb : σ → List PV × List Row} (hdec : ∀ x y s, dec x y = some s → sh.get (emb s).1 (emb s).2 = some (x, y)) : ∀ S H s, ofSt sh dec S H = some s → S = (emb s).1 ∧ H = (emb s).2 := by
  intro S H s h
  unfold ofSt at h
  split at h
  · rename_i x hx; exact St.inj hx (hdec _ _ _ h)
  · cases h
theorem orGet_emb {σ : Type} {g g' : List PV → List Row → Option σ} {emb : σ → List PV × List Row} (h1 : ∀ S H s, g S H = some s → S = (emb s).1 ∧ H = (emb s).2) (h2 : ∀ S H s, g' S H = some s → S = (emb s).1 ∧ H = (emb s).2) : ∀ S H s, orGet g g' S H = some s → S = (emb s).1 ∧ H = (emb s).2 := by
  intro S H s h
  unfold orGet at h
  split at h
  · rename_i s1 hs; cases h; exact h1 _ _ _ hs
  · exact h2 _ _ _ h

theorem loopW {P : Program} {E : EnvK} (hE : EnvOK P E.env) {n : Nat} {f : FuncId} {b : Code} (l l' : List Tmp) {σ : Type} {sel : List Bool} (emb : σ → List PV × List Row) {get : List PV → List Row → Option σ}
    (hget : ∀ S H s, get S H = some s → S = (emb s).1 ∧ H = (emb s).2) {pre : σ → Bool} (m : σ → Nat) {fin : σ → DT (PX × List PV × List Row)}
    (hstep : ∀ s r, pre s = true → (fin s).run = some r → r.1 ≠ .normal ∧ (runB P E n f b l l' (emb s).1 (emb s).2 = some r ∨
      ∃ s', runB P E n f b l l' (emb s).1 (emb s).2 = some (.normal, emb s') ∧ pre s' = true ∧ m s' < m s ∧ (fin s').run = some r)) :
    SubCode P f (.loop b) → ∀ (ro : Nat) (S : List PV) (H : List Row) (d : DT (PX × List PV × List Row)) (x : PX) (S' : List PV) (H' : List Row), byModel sel get pre fin ro S H = some d → d.run = some (x, S', H') → WpTo P (.loop b) ro S H x S' H' := by
  intro hsub ro S H d x S' H' hc hd
  cases ro with
  | succ ro => cases hc
  | zero =>
  change (match get S (nrmA sel H) with | some s => some (DT.br (pre s) (fin s) DT.no) | none => none) = some d at hc
  split at hc
  · rename_i s hs
    obtain rfl := Option.some.inj hc
    obtain ⟨e1, e2⟩ := hget _ _ _ hs
    have hp : pre s = true ∧ (fin s).run = some (x, S', H') := by
      change (match pre s with | true => (fin s).run | false => DT.no.run) = _ at hd
      cases hq : pre s with
      | true => rw [hq] at hd; exact ⟨rfl, hd⟩
      | false => rw [hq] at hd; cases hd
    obtain ⟨hp, hr⟩ := hp
    clear hc hd hs
    have hbody := hsub.sub (.loop .here)
    refine wpTo_nrmA sel ?_
    rw [e2, e1]
    clear e1 e2
    have hx := (hstep s _ hp hr).1
    refine Rnds.loop hx ?_
    generalize hm : m s = k
    induction k using Nat.strongRecOn generalizing s with
    | _ k ih =>
      rcases (hstep s _ hp hr).2 with h1 | ⟨s', h1, h2, h3, h4⟩
      · exact .stop (runB_sound hE hbody h1)
      · exact .go (runB_sound hE hbody h1) (ih (m s') (by omega) s' h2 h4 rfl)
  · cases hc

/-- The function's loop with this number: what it comes to. -/
theorem EnvOK.addM {P : Program} {E : EnvK} (hE : EnvOK P E.env) {n : Nat} {k i : Nat} {fn : Func} {body b : Code} (hf : P.funcs[k]? = some fn) (hb : fn.body = some body) (h0 : (loops body).filter (fun b => rid b == i) = [b])
    (l l' : List Tmp) {σ : Type} {sel : List Bool} (emb : σ → List PV × List Row) {get : List PV → List Row → Option σ}
    (hget : ∀ S H s, get S H = some s → S = (emb s).1 ∧ H = (emb s).2) {pre : σ → Bool} (m : σ → Nat) {fin : σ → DT (PX × List PV × List Row)}
    (hstep : ∀ s r, pre s = true → (fin s).run = some r → r.1 ≠ .normal ∧ (runB P E n k b l l' (emb s).1 (emb s).2 = some r ∨
      ∃ s', runB P E n k b l l' (emb s).1 (emb s).2 = some (.normal, emb s') ∧ pre s' = true ∧ m s' < m s ∧ (fin s').run = some r)) :
    EnvOK P (E.addL k i l (byModel sel get pre fin)).env :=
  hE.addL hf hb h0 fun hs ro S H d x S' H' => loopW hE l l' emb hget m hstep hs ro S H d x S' H'
end Go.Hx
