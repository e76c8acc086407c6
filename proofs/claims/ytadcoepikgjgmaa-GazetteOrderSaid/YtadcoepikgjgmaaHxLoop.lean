/- Hx: ranges over functions: the loops' records, and the marks that they leave behind. -/
import Derived.Test.YtadcoepikgjgmaaHxExec
import Derived.RangeFuncRecord
namespace Go.Hx

/-- Only blocks of marks turn. -/
structure Qt (w w' : World) : Prop where
  os : w'.os = w.os
  tape : w'.tape = w.tape
  output : w'.output = w.output
  size : w'.heap.size = w.heap.size
  block : ∀ (b : Nat) o, w.heap[b]? = some o → (∀ d, o ≠ .deferred d) → w'.heap[b]? = some o
theorem Qt.refl (w : World) : Qt w w := ⟨rfl, rfl, rfl, rfl, fun _ _ h _ => h⟩
theorem Qt.trans {a b c : World} (h : Qt a b) (k : Qt b c) : Qt a c :=
  ⟨k.os.trans h.os, k.tape.trans h.tape, k.output.trans h.output, k.size.trans h.size, fun x o hx hd => k.block x o (h.block x o hx hd) hd⟩
theorem Qt.put {w : World} {r : Nat} {d d' : Option (List Deferred)} (h : w.heap[r]? = some (.deferred d)) : Qt w (w.putObj r (.deferred d')) :=
  ⟨rfl, rfl, rfl, by simp, fun b o hb hd => by
    have hne : b ≠ r := fun e => by subst e; rw [h] at hb; cases hb; exact hd _ rfl
    rw [World.putObj_heap_other hne]; exact hb⟩
theorem Qt.cell {w w' : World} (h : Qt w w') {b x : Nat} {v : Value} (hc : w.cell? ⟨b, x, none⟩ = some v) : w'.cell? ⟨b, x, none⟩ = some v := by
  simp only [World.cell?] at hc ⊢
  split at hc
  · rename_i c e fr hb
    rw [h.block b _ hb (fun d => by simp)]
    exact hc
  · cases hc
theorem SlAt.qt {C : Ctx} {w' : World} (h : Qt C.w w') {i k cap : Nat} {r : Row} {a : Option Addr} (hh : SlAt C i r k a cap) : SlAt (C.at w') i r k a cap := by
  unfold SlAt at *
  split at hh
  · rename_i hn; rw [if_pos hn]; exact hh
  · rename_i hn
    rw [if_neg hn]
    obtain ⟨b, h0, h1, c, e, fr, h2, h3⟩ := hh
    exact ⟨b, h0, h1, c, e, fr, h.block b _ h2 (fun d => by simp), h3⟩
theorem RV.qt {P : Program} {C : Ctx} {w' : World} (h : Qt C.w w') {p : PV} {V : Value} (hv : RV P C p V) : RV P (C.at w') p V := by
  induction hv with
  | any => exact .any
  | val => exact .val
  | ptr hV hk hi hn hh => exact .ptr hV hk hi hn hh
  | lptr cv hb hlt hc hr ht ih => exact .lptr cv hb (by show _ < w'.heap.size; rw [h.size]; exact hlt) (fun x p hx => h.cell (hc x p hx)) ih ht
  | sl hV hi hn hh =>
    refine .sl hV hi hn fun r' hr' hl => ?_
    obtain ⟨hk, a, cap, hV, hc, hs⟩ := hh r' hr' hl
    exact ⟨hk, a, cap, hV, hc, hs.qt h⟩
  | lst b off cv hcap hfull ha hc hr ht ih =>
    refine .lst b off cv hcap hfull (fun h0 => ?_) (fun x e j p hx hj => h.cell (hc x e j p hx hj)) ih ht
    obtain ⟨h1, h2, h3⟩ := ha h0
    exact ⟨h1, h2, by show _ < w'.heap.size; rw [h.size]; exact h3⟩
  | agg hs _ ih => exact .agg hs ih
  | tup hs _ ih => exact .tup hs ih
  | fn h1 h2 _ _ ih3 ih4 => exact .fn h1 h2 ih3 ih4
  | ifc _ ih => exact .ifc ih
  | yld hi hl hb => exact .yld hi hl hb
theorem RSl.qt {P : Program} {C : Ctx} {w' : World} (h : Qt C.w w') {S : List PV} {t : Array Value} (hs : RSl P C S t) : RSl P (C.at w') S t :=
  ⟨hs.1, fun i p v h1 h2 => (hs.2 i p v h1 h2).qt h⟩
theorem RH.qt {P : Program} {C : Ctx} {w' : World} (h : Qt C.w w') (hR : RH P C) : RH P (C.at w') := by
  refine ⟨hR.inj, hR.dom, fun i b r h1 h2 => ?_, hR.ro, hR.nfo, fun b hb => by show b < w'.heap.size; rw [h.size]; exact hR.fol b hb, fun i b r info h1 h2 h3 h4 => ?_⟩
  · obtain ⟨sz, ⟨c, fr, cv, m1, m2, m3, m4⟩, l, t⟩ := hR.blk i b r h1 h2
    exact ⟨sz, ⟨c, fr, cv, h.block b _ m1 (fun d => by simp), m2, m3, fun k e j p hk hj => ⟨(m4 k e j p hk hj).1, (m4 k e j p hk hj).2.qt h⟩⟩, l, t⟩
  · obtain ⟨⟨rec, m1, m2, m3, m4, m5, m6⟩, ha, hb⟩ := hR.lps i b r info h1 h2 h3 h4
    exact ⟨⟨rec, h.block b _ m1 (fun d => by simp), m2, m3, m4, m5.qt h, m6⟩, ha, hb⟩

/-- No row's block is a mark's. -/
theorem RH.nodef {P : Program} {C : Ctx} (hR : RH P C) {b : Nat} {d : Option (List Deferred)} (h : C.w.heap[b]? = some (.deferred d)) : ¬ C.has b := by
  rintro ⟨i, hi⟩
  rcases hR.dom i b hi with ⟨r, hr⟩ | ⟨r, info, h1, h2, h3⟩
  · obtain ⟨c, fr, cv, hh, _⟩ := (hR.blk i b r hi hr).mem
    rw [h] at hh; cases hh
  · obtain ⟨rec, hh, _⟩ := (hR.lps i b r info hi h1 h2 h3).mem
    rw [h] at hh; cases hh

def mk (r : Nat) : Deferred := { target := .collected r, args := #[] }
/-- The marks that a stretch of code has left. -/
def Dfs (w : World) (a : Act) (w' : World) (a' : Act) : Prop :=
  ∃ rs : List Nat, rs.Nodup ∧ a'.defers = rs.map mk ++ a.defers ∧ ∀ r, r ∈ rs → w.heap.size ≤ r ∧ w'.heap[r]? = some (.deferred (some []))
theorem Dfs.of_eq {w w' : World} {a a' : Act} (h : a'.defers = a.defers) : Dfs w a w' a' := ⟨[], List.nodup_nil, by simpa using h, fun _ h => by cases h⟩
theorem Dfs.lt {w : World} {r : Nat} {o : Obj} (h : w.heap[r]? = some o) : r < w.heap.size := (Array.getElem?_eq_some_iff.1 h).1
theorem Dfs.next {P : Program} {w : World} {C C' : Ctx} {a a' : Act} (h : Dfs w a C.w a') (hR : RH P C) (hx : Ext C C') : Dfs w a C'.w a' := by
  obtain ⟨rs, h1, h2, h3⟩ := h
  refine ⟨rs, h1, h2, fun r hr => ⟨(h3 r hr).1, ?_⟩⟩
  rw [hx.block r (Dfs.lt (h3 r hr).2) (fun ho => hR.nodef (h3 r hr).2 ho.has)]
  exact (h3 r hr).2
theorem Dfs.trans {P : Program} {w : World} {C C' : Ctx} {a a' a'' : Act} (h : Dfs w a C.w a') (hsz : w.heap.size ≤ C.w.heap.size) (hR : RH P C) (hx : Ext C C') (k : Dfs C.w a' C'.w a'') : Dfs w a C'.w a'' := by
  obtain ⟨rs, h1, h2, h3⟩ := h.next hR hx
  obtain ⟨qs, k1, k2, k3⟩ := k
  obtain ⟨rs0, _, e0, h30⟩ := h
  have hrs : rs = rs0 := by
    have h4 := h2.symm.trans e0
    have h5 := List.append_cancel_right h4
    have inj : ∀ (a b : List Nat), a.map mk = b.map mk → a = b := by
      intro a
      induction a with
      | nil => intro b hb; cases b with | nil => rfl | cons => simp at hb
      | cons x a ih => intro b hb; cases b with | nil => simp at hb | cons y b => simp [mk] at hb; rw [hb.1, ih b (by simpa [mk] using hb.2)]
    exact inj _ _ h5
  subst hrs
  refine ⟨qs ++ rs, ?_, by rw [k2, h2]; simp, fun r hr => ?_⟩
  · rw [List.nodup_append]
    refine ⟨k1, h1, fun x hx y hy e => ?_⟩
    subst e
    have := Dfs.lt (h30 x hy).2
    have := (k3 x hx).1
    omega
  · rcases List.mem_append.1 hr with hr | hr
    · exact ⟨Nat.le_trans hsz (k3 r hr).1, (k3 r hr).2⟩
    · exact h3 r hr

/-- The round's own record lies in the world. -/
def RoundOK (r : Option Nat) (w : World) : Prop := ∀ l, r = some l → ∃ rec, w.heap[l]? = some (.loop rec)
theorem RoundOK.mono {r : Option Nat} {C C' : Ctx} (h : RoundOK r C.w) (hx : Ext C C') : RoundOK r C'.w := fun l hl =>
  let ⟨rec, hr⟩ := h l hl; hx.loop l rec hr
theorem RoundOK.none (w : World) : RoundOK none w := fun _ h => by cases h

/-- Seen from before. -/
theorem Ext.qt {C C' : Ctx} {w' : World} (h : Ext C C') (hq : Qt C'.w w') (hb : ∀ (b : Nat), b < C.w.heap.size → w'.heap[b]? = C'.w.heap[b]?) : Ext C (C'.at w') where
  os := hq.os.trans h.os
  tape := hq.tape.trans h.tape
  output := hq.output.trans h.output
  size := by show _ ≤ w'.heap.size; rw [hq.size]; exact h.size
  block b hlt ho := (hb b hlt).trans (h.block b hlt ho)
  shape b c e fr hh := by
    obtain ⟨c', h1, h2⟩ := h.shape b c e fr hh
    exact ⟨c', hq.block b _ h1 (fun d => by simp), h2⟩
  len := h.len
  rows := h.rows
  fresh := h.fresh
  freshOwn := h.freshOwn
  fo := h.fo
  ro := h.ro
  low := h.low
  lp := h.lp
  loop b rec hh := by
    obtain ⟨rec', h1⟩ := h.loop b rec hh
    exact ⟨rec', hq.block b _ h1 (fun d => by simp)⟩

/-- At a function's end the marks' blocks are shut. -/
theorem leaves_marks {F : Fence} {n : Nat} {P : Program} {fn : Func} {tmps : Array Value} {R : Ending → World → Prop} : ∀ (rs : List Nat) (w : World), rs.Nodup → (∀ r ∈ rs, w.heap[r]? = some (.deferred (some []))) →
    (∀ w', Qt w w' → (∀ (b : Nat), b ∉ rs → w'.heap[b]? = w.heap[b]?) → ∃ v, (results fn tmps).run P w' = .ok v w' ∧ R (.returned v) w') → LeavesInM F n P fn tmps R (rs.map mk) .returning w
  | [], w, _, _, h => h w (.refl w) (fun _ _ => rfl)
  | r :: rs, w, hn, hd, h => by
    have hr := hd r (by simp)
    have hn' := List.nodup_cons.1 hn
    refine ⟨by simp, .inl ⟨r, _, rfl, run_takeDeferred hr, leaves_marks rs _ hn'.2 (fun q hq => ?_) fun w' hw hb => h w' ((Qt.put hr).trans hw) fun b hb' => ?_⟩⟩
    · have hne : q ≠ r := fun e => hn'.1 (e ▸ hq)
      rw [World.putObj_heap_other hne]; exact hd q (by simp [hq])
    · have hb2 : b ∉ rs := fun h => hb' (by simp [h])
      have hne : b ≠ r := fun e => hb' (by simp [e])
      rw [hb b hb2, World.putObj_heap_other hne]

theorem loopAt_some {H : List Row} {i : Nat} {info : LoopI} (h : loopAt H i = some info) : ∃ r, H[i]? = some r ∧ r.lp = some info ∧ r.live = false := by
  unfold loopAt at h
  split at h
  · rename_i r hr
    split at h
    · rename_i hl; exact ⟨r, hr, h, hl⟩
    · cases h
  · cases h
theorem setSt_some {H H' : List Row} {i : Nat} {st : LSt} (h : setSt H i st = some H') : ∃ r info, H[i]? = some r ∧ r.lp = some info ∧ r.live = false ∧ H' = H.set i { r with lp := some ⟨info.k, st⟩ } := by
  unfold setSt at h
  split at h
  · rename_i r hr
    split at h
    · rename_i info hl hp; cases h; exact ⟨r, info, hr, hp, hl, rfl⟩
    · cases h
  · cases h

/-- What is said of a record of some status. -/
def StB (st : LSt) (rec : Loop) : Prop :=
  match st with | .ready => rec.state = .ready ∧ rec.pending = none | .busy => rec.state = .busy | .done j => rec.state = .done ∧ rec.pending = some j | .over => True

/-- The record turns. -/
def Ctx.turnL (C : Ctx) (b : Nat) (rec : Loop) (H' : List Row) : Ctx := { C with H := H', w := C.w.putObj b (.loop rec) }
theorem setSt_sound {P : Program} {C : Ctx} (hR : RH P C) {i b : Nat} {st : LSt} {H' : List Row} (h : setSt C.H i st = some H') (hρ : C.ρ i = some b) (hro : C.ro ≤ i) {rec rec' : Loop} (hrec : C.w.heap[b]? = some (.loop rec))
    (h1 : rec'.params = rec.params) (h2 : rec'.assign = rec.assign) (h3 : rec'.body = rec.body) (h4 : rec'.tmps = rec.tmps) (h5 : StB st rec') : Ext C (C.turnL b rec' H') ∧ RH P (C.turnL b rec' H') := by
  obtain ⟨r, info, g1, g2, g3, rfl⟩ := setSt_some h
  have hi : i < C.H.length := (List.getElem?_eq_some_iff.1 g1).1
  have hblt : b < C.w.heap.size := hR.lt hρ
  have hb' : ∀ (x : Nat), x ≠ b → (C.w.putObj b (.loop rec')).heap[x]? = C.w.heap[x]? := fun x hx => World.putObj_heap_other hx
  have hrowi : C.row? i = none := by unfold Ctx.row? rowAt; rw [g1]; simp [g3]
  have hrow : ∀ x, rowAt (C.H.set i { r with lp := some ⟨info.k, st⟩ }) x = C.row? x := by
    intro x
    unfold rowAt
    rw [List.getElem?_set]
    by_cases hx : i = x
    · subst hx
      simp only [if_true, hi, g3, Bool.false_eq_true, if_false, hrowi]
    · rw [if_neg hx]; rfl
  have hx : Ext C (C.turnL b rec' (C.H.set i { r with lp := some ⟨info.k, st⟩ })) := by
    refine ⟨rfl, rfl, rfl, by simp [Ctx.turnL], fun x hx ho => hb' x (fun e => ho ⟨i, hro, e ▸ hρ⟩), fun x c e fr hh => ?_, by simp [Ctx.turnL], fun x r' _ hr => ⟨r', by rw [← hr]; exact (hrow x).symm, rfl, rfl, Nat.le_refl _, fun _ => ⟨rfl, fun _ h => h⟩⟩, fun _ h => .inl h, fun _ h => .inl h, rfl, rfl, fun x hx => ⟨?_, rfl⟩, fun x q info' q1 q2 q3 => ⟨?_, fun _ h => h⟩, fun x rc hh => ?_⟩
    · have hne : x ≠ b := fun e => by subst e; rw [hrec] at hh; cases hh
      exact ⟨c, by rw [← hh]; exact hb' x hne, rfl⟩
    · show (C.H.set i _)[x]? = _
      rw [List.getElem?_set, if_neg (by omega)]
    · show ∃ r' st, (C.H.set i _)[x]? = some r' ∧ _
      by_cases hxi : i = x
      · subst hxi
        rw [g1] at q1; cases q1
        rw [g2] at q2; cases q2
        exact ⟨{ r with lp := some ⟨info.k, st⟩ }, st, by rw [List.getElem?_set, if_pos rfl, if_pos hi], rfl, g3⟩
      · exact ⟨q, info'.st, by rw [List.getElem?_set, if_neg hxi]; exact q1, q2, q3⟩
    · by_cases hxb : x = b
      · subst hxb; exact ⟨rec', World.putObj_heap_same hblt⟩
      · exact ⟨rc, by rw [← hh]; exact hb' x hxb⟩
  refine ⟨hx, hR.inj, fun x c hx' => ?_, fun x c q q1 q2 => ?_, by simpa [Ctx.turnL] using hR.ro, hR.nfo, fun x hx' => by simpa [Ctx.turnL] using hR.fol x hx', fun x c q info' q1 q2 q3 q4 => ?_⟩
  · rcases hR.dom x c hx' with ⟨q, hq⟩ | ⟨q, info', q1, q2, q3⟩
    · exact .inl ⟨q, by rw [← hq]; exact hrow x⟩
    · obtain ⟨⟨q', st', z1, z2, z3⟩, _⟩ := hx.lp x q info' q1 q2 q3
      exact .inr ⟨q', _, z1, z2, z3⟩
  · have q2' : C.row? x = some q := by rw [← q2]; exact (hrow x).symm
    have hB := hR.blk x c q q1 q2'
    have hne : c ≠ b := fun e => by
      subst e
      obtain ⟨cc, fr, cv, hh, _⟩ := hB.mem
      rw [hrec] at hh; cases hh
    exact hB.mono hx (hb' c hne)
  · have hq2 : (C.H.set i { r with lp := some ⟨info.k, st⟩ })[x]? = some q := q2
    rw [List.getElem?_set] at hq2
    by_cases hxi : i = x
    · subst hxi
      rw [if_pos rfl, if_pos hi] at hq2
      cases hq2
      cases q3
      have hcb : c = b := Option.some.inj ((show C.ρ i = some c from q1).symm.trans hρ)
      subst hcb
      obtain ⟨⟨rec0, m1, m2, m3, m4, m5, m6⟩, ha, hbd⟩ := hR.lps i c r info hρ g1 g2 g3
      rw [hrec] at m1; cases m1
      exact ⟨⟨rec', World.putObj_heap_same hblt, h1.trans m2, h2.trans m3, h3.trans m4, by rw [h4]; exact m5.mono hx, h5⟩, ha, hbd⟩
    · rw [if_neg hxi] at hq2
      have hL := hR.lps x c q info' q1 hq2 q3 q4
      have hne : c ≠ b := fun e => hxi (hR.inj i x b hρ (e ▸ q1))
      exact hL.mono hx (hb' c hne)

theorem setPs_sound {P : Program} {C : Ctx} : ∀ (ps : List Tmp) (args : List PV) (Vs : List Value) (S : List PV) (t : Array Value), RSl P C S t → args.length = Vs.length → (∀ (j : Nat) c v, args[j]? = some c → Vs[j]? = some v → RV P C c v) →
    RSl P C (setPs S ps args) ((ps.zip Vs).foldl (fun t x => t.setIfInBounds x.1 x.2) t)
  | [], _, _, S, t, h, _, _ => by simpa [setPs] using h
  | p :: ps, [], [], S, t, h, _, _ => by simpa [setPs] using h
  | p :: ps, [], _ :: _, S, t, h, hl, _ => by simp at hl
  | p :: ps, _ :: _, [], S, t, h, hl, _ => by simp at hl
  | p :: ps, c :: args, v :: Vs, S, t, h, hl, hv => by
    have h1 : RSl P C (S.set p c) (t.setIfInBounds p v) := by
      have := RSl.put (a := { tmps := t, defers := [] }) h (d := some p) (hv 0 c v rfl rfl)
      exact this
    have := setPs_sound ps args Vs (S.set p c) (t.setIfInBounds p v) h1 (by simpa using hl) (fun j c' v' a b => hv (j + 1) c' v' (by simpa using a) (by simpa using b))
    simpa [setPs] using this

/-- The record of a new loop. -/
theorem bindL_rows {P : Program} {C : Ctx} (hR : RH P C) {f : FuncId} {S : List PV} {ps : Array Tmp} {asg body : Code} {rec : Loop} (h1 : rec.params = ps) (h2 : rec.assign = asg) (h3 : rec.body = body) (h4 : RSl P C S rec.tmps) (h5 : rec.state = .ready) (h6 : rec.pending = none)
    (ha : SubCode P f asg) (hb : SubCode P f body) :
    Ext C ((C.more (loopRow f S ps asg body)).bind C.H.length (.loop rec)) ∧ RH P ((C.more (loopRow f S ps asg body)).bind C.H.length (.loop rec)) := by
  have hx1 := more_ext hR (loopRow f S ps asg body)
  have hR1 := more_rh hR (loopRow f S ps asg body)
  have hn : (C.more (loopRow f S ps asg body)).ρ C.H.length = none := hR.ρ_none (Nat.le_refl _)
  have hx2 := Ctx.bind_ext (C := C.more (loopRow f S ps asg body)) hn hR.ro (.loop rec)
  have hrow : (C.H ++ [loopRow f S ps asg body])[C.H.length]? = some (loopRow f S ps asg body) := by simp
  refine ⟨hx1.trans hx2, fun x y b hx hy => ?_, fun x b hx => ?_, fun x b r' g1 g2 => ?_, hR1.ro, fun x b hx => ?_, fun b hb => Nat.lt_of_lt_of_le (hR1.fol b hb) hx2.size, fun x b r' info g1 g2 g3 g4 => ?_⟩
  · simp only [Ctx.bind] at hx hy
    split at hx <;> split at hy
    · omega
    · cases hx; have := hR1.lt hy; exact absurd this (by simp [Ctx.more])
    · cases hy; have := hR1.lt hx; exact absurd this (by simp [Ctx.more])
    · exact hR1.inj x y b hx hy
  · simp only [Ctx.bind] at hx
    split at hx
    · rename_i e; subst e; exact .inr ⟨_, _, hrow, rfl, rfl⟩
    · exact hR1.dom x b hx
  · simp only [Ctx.bind] at g1
    split at g1
    · rename_i e
      subst e
      have : (C.more (loopRow f S ps asg body)).row? C.H.length = none := by unfold Ctx.row? rowAt; rw [show (C.more (loopRow f S ps asg body)).H[C.H.length]? = _ from hrow]; rfl
      rw [show (C.more (loopRow f S ps asg body)).row? C.H.length = some r' from g2] at this
      cases this
    · have hb := hR1.blk x b r' g1 g2
      exact hb.mono hx2 (Go.heap_alloc_old C.w _ hb.lt)
  · simp only [Ctx.bind] at hx ⊢
    split at hx
    · cases hx; exact fun hf => Nat.lt_irrefl _ (hR.fol _ hf)
    · exact hR1.nfo x b hx
  · simp only [Ctx.bind] at g1
    split at g1
    · rename_i e
      subst e
      cases g1
      have g2' : (C.H ++ [loopRow f S ps asg body])[C.H.length]? = some r' := g2
      rw [hrow] at g2'
      cases g2'
      cases g3
      exact ⟨⟨rec, heap_alloc_new C.w _, h1, h2, h3, h4.mono (hx1.trans hx2), h5, h6⟩, ha, hb⟩
    · have hL := hR1.lps x b r' info g1 g2 g3 g4
      exact hL.mono hx2 (Go.heap_alloc_old C.w _ hL.lt)
end Go.Hx
