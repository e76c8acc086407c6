/- Hx: loops' contracts by a model whose states are lists of leaves: a shape takes a state apart and puts it together. -/
import Derived.Test.YtadcoepikgjgmaaHxTurn
namespace Go.Hx
inductive L1 where
  | i (n : Int) | b (b : Bool) | n (n : Nat) | l (f : Bool) (es : List PV) | s (s : ByteArray) | p (p : PV) | r (r : Row)
inductive X1 where
  | any | int (k : IntKind) | bool | lst (t : TypeId) | str | ptr (i n k j : Nat) | sl (i : Nat) | slo (i : Nat) | nil | pv | yld (i : Nat) | agg (cs : List X1) | fn (f : FuncId) (first cap : List X1)
abbrev I64 : X1 := .int .i64
mutual
def X1.get : X1 → PV → Option (List L1)
  | .any, .any => some []
  | .int k, .val (.int k' n) => if k == k' then some [.i n] else none
  | .bool, .val (.bool v) => some [.b v]
  | .lst t, .lst f t' es => if t == t' then some [.l f es] else none
  | .str, .val (.string s) => some [.s s]
  | .ptr i n k j, .ptr i' n' k' j' => if i == i' && n == n' && k == k' && j == j' then some [] else none
  | .sl i, .sl i' n k l => if i == i' && k == 0 then some [.n n, .n l] else none
  | .slo i, .sl i' n k l => if i == i' then some [.n n, .n k, .n l] else none
  | .nil, .val (.slice none 0 0) => some []
  | .pv, p => some [.p p]
  | .yld i, .yld i' => if i == i' then some [] else none
  | .agg cs, .agg ps => X1.gets cs ps
  | .fn f a b, .fn (.func f') as bs => if f == f' then (match X1.gets a as, X1.gets b bs with | some x, some y => some (x ++ y) | _, _ => none) else none
  | _, _ => none
def X1.gets : List X1 → List PV → Option (List L1)
  | [], [] => some []
  | c :: cs, p :: ps => match X1.get c p, X1.gets cs ps with | some x, some xs => some (x ++ xs) | _, _ => none
  | _, _ => none
end
mutual
def X1.len : X1 → Nat
  | .any => 0 | .int _ => 1 | .bool => 1 | .lst _ => 1 | .str => 1 | .ptr _ _ _ _ => 0 | .sl _ => 2 | .slo _ => 3 | .nil => 0 | .pv => 1 | .yld _ => 0 | .agg cs => X1.lens cs | .fn _ a b => X1.lens a + X1.lens b
def X1.lens : List X1 → Nat
  | [] => 0 | c :: cs => c.len + X1.lens cs
end
mutual
def X1.put : X1 → List L1 → PV
  | .any, _ => .any
  | .int k, [.i n] => .val (.int k n)
  | .bool, [.b v] => .val (.bool v)
  | .lst t, [.l f es] => .lst f t es
  | .str, [.s s] => .val (.string s)
  | .ptr i n k j, _ => .ptr i n k j
  | .sl i, [.n n, .n l] => .sl i n 0 l
  | .slo i, [.n n, .n k, .n l] => .sl i n k l
  | .nil, _ => .val (.slice none 0 0)
  | .pv, [.p p] => p
  | .yld i, _ => .yld i
  | .agg cs, xs => .agg (X1.puts cs xs)
  | .fn f a b, xs => .fn (.func f) (X1.puts a (xs.take (X1.lens a))) (X1.puts b (xs.drop (X1.lens a)))
  | _, _ => .any
def X1.puts : List X1 → List L1 → List PV
  | [], _ => []
  | c :: cs, xs => X1.put c (xs.take c.len) :: X1.puts cs (xs.drop c.len)
end
def X1.leafy : X1 → Bool | .agg _ => false | .fn _ _ _ => false | _ => true
theorem X1.get_put0 {c : X1} {p : PV} {x : List L1} (hc : c.leafy = true) (h : c.get p = some x) : p = c.put x ∧ x.length = c.len := by
  unfold X1.get at h
  split at h
  · cases h; exact ⟨rfl, rfl⟩
  · split at h
    · rename_i hk; cases h; rw [beq_iff_eq] at hk; subst hk; exact ⟨rfl, rfl⟩
    · cases h
  · cases h; exact ⟨rfl, rfl⟩
  · split at h
    · rename_i hk; cases h; rw [beq_iff_eq] at hk; subst hk; exact ⟨rfl, rfl⟩
    · cases h
  · cases h; exact ⟨rfl, rfl⟩
  · split at h
    · rename_i hk; cases h; simp only [Bool.and_eq_true, beq_iff_eq] at hk; obtain ⟨⟨⟨rfl, rfl⟩, rfl⟩, rfl⟩ := hk; exact ⟨rfl, rfl⟩
    · cases h
  · split at h
    · rename_i hk; cases h; simp only [Bool.and_eq_true, beq_iff_eq] at hk; obtain ⟨rfl, rfl⟩ := hk; exact ⟨rfl, rfl⟩
    · cases h
  · split at h
    · rename_i hk; cases h; rw [beq_iff_eq] at hk; subst hk; exact ⟨rfl, rfl⟩
    · cases h
  · cases h; exact ⟨rfl, rfl⟩
  · cases h; exact ⟨rfl, rfl⟩
  · split at h
    · rename_i hk; cases h; rw [beq_iff_eq] at hk; subst hk; exact ⟨rfl, rfl⟩
    · cases h
  · cases hc
  · cases hc
  · cases h
mutual
theorem X1.get_put : ∀ (c : X1) {p : PV} {x : List L1}, c.get p = some x → p = c.put x ∧ x.length = c.len
  | .agg cs, p, x, h => by
    cases p with
    | agg ps =>
      simp only [X1.get] at h
      obtain ⟨h1, h2⟩ := X1.gets_puts cs h
      exact ⟨by simp only [X1.put]; rw [← h1], h2⟩
    | _ => simp [X1.get] at h
  | .fn f a b, p, x, h => by
    cases p with
    | fn g as bs =>
      cases g with
      | func k =>
        simp only [X1.get] at h
        split at h
        · rename_i hf
          split at h
          · rename_i x1 y1 hx hy
            cases h
            obtain ⟨h1, h2⟩ := X1.gets_puts a hx
            obtain ⟨h3, h4⟩ := X1.gets_puts b hy
            rw [beq_iff_eq] at hf
            subst hf
            refine ⟨?_, by simp only [X1.len, List.length_append, h2, h4]⟩
            simp only [X1.put]
            rw [← h2, List.take_left, List.drop_left, ← h1, ← h3]
          · cases h
        · cases h
      | _ => simp [X1.get] at h
    | _ => simp [X1.get] at h
  | .any, _, _, h => X1.get_put0 rfl h
  | .int _, _, _, h => X1.get_put0 rfl h
  | .bool, _, _, h => X1.get_put0 rfl h
  | .lst _, _, _, h => X1.get_put0 rfl h
  | .str, _, _, h => X1.get_put0 rfl h
  | .ptr _ _ _ _, _, _, h => X1.get_put0 rfl h
  | .sl _, _, _, h => X1.get_put0 rfl h
  | .slo _, _, _, h => X1.get_put0 rfl h
  | .nil, _, _, h => X1.get_put0 rfl h
  | .pv, _, _, h => X1.get_put0 rfl h
  | .yld _, _, _, h => X1.get_put0 rfl h
theorem X1.gets_puts : ∀ (cs : List X1) {ps : List PV} {x : List L1}, X1.gets cs ps = some x → ps = X1.puts cs x ∧ x.length = X1.lens cs
  | [], ps, x, h => by cases ps <;> simp [X1.gets] at h; subst h; exact ⟨rfl, rfl⟩
  | c :: cs, [], x, h => by simp [X1.gets] at h
  | c :: cs, p :: ps, x, h => by
    simp only [X1.gets] at h
    split at h
    · rename_i a b h1 h2
      cases h
      obtain ⟨e1, e2⟩ := X1.get_put c h1
      obtain ⟨e3, e4⟩ := X1.gets_puts cs h2
      refine ⟨?_, by simp only [X1.lens, List.length_append, e2, e4]⟩
      simp only [X1.puts]
      rw [← e2, List.take_left, List.drop_left, ← e1, ← e3]
    · cases h
end
/-- Shapes of rows: one element; any elements; anything. -/
inductive Y1 where
  | one (t s : Nat) (h : X1) | many (t s : Nat) | raw
def Y1.get : Y1 → Row → Option (List L1)
  | .one t s h, r => if rowBase r t s && !r.nl then (match r.es with | [e] => h.get e | _ => none) else none
  | .many t s, r => if rowBase r t s then some [.l r.nl r.es] else none
  | .raw, r => some [.r r]
def Y1.len : Y1 → Nat | .one _ _ h => h.len | .many _ _ => 1 | .raw => 1
def Y1.put : Y1 → List L1 → Row
  | .one t s h, xs => { es := [h.put xs], s, t, bv := true }
  | .many t s, [.l nl es] => { es, s, t, bv := true, nl }
  | .raw, [.r r] => r
  | _, _ => default
theorem Y1.get_put {c : Y1} {p : Row} {x : List L1} (h : c.get p = some x) : p = c.put x ∧ x.length = c.len := by
  cases c with
  | one t s sh =>
    simp only [Y1.get] at h
    split at h
    · rename_i hb
      split at h
      · rename_i e he
        simp only [Bool.and_eq_true, Bool.not_eq_true'] at hb
        obtain ⟨h1, h2⟩ := X1.get_put sh h
        refine ⟨?_, h2⟩
        rw [rowBase_eq hb.1, he, hb.2]
        simp only [Y1.put, ← h1]
      · cases h
    · cases h
  | many t s =>
    simp only [Y1.get] at h
    split at h
    · rename_i hb; cases h; exact ⟨rowBase_eq hb, rfl⟩
    · cases h
  | raw => simp only [Y1.get] at h; cases h; exact ⟨rfl, rfl⟩
def Y1.gets : List Y1 → List Row → Option (List L1)
  | [], [] => some []
  | c :: cs, p :: ps => match c.get p, Y1.gets cs ps with | some x, some xs => some (x ++ xs) | _, _ => none
  | _, _ => none
def Y1.puts : List Y1 → List L1 → List Row
  | [], _ => []
  | c :: cs, xs => Y1.put c (xs.take c.len) :: Y1.puts cs (xs.drop c.len)
theorem Y1.gets_puts : ∀ {cs : List Y1} {ps : List Row} {x : List L1}, Y1.gets cs ps = some x → ps = Y1.puts cs x
  | [], [], x, h => rfl
  | [], _ :: _, x, h => by simp [Y1.gets] at h
  | _ :: _, [], x, h => by simp [Y1.gets] at h
  | c :: cs, p :: ps, x, h => by
    simp only [Y1.gets] at h
    split at h
    · rename_i a b h1 h2
      cases h
      obtain ⟨e1, e2⟩ := Y1.get_put h1
      simp only [Y1.puts]
      rw [← e2, List.take_left, List.drop_left, ← e1, ← Y1.gets_puts h2]
    · cases h
/-- Slots, by their numbers. -/
def slG (shs : List (Nat × X1)) : Nat → Nat → List PV → Option (List L1)
  | 0, _, [] => some []
  | n + 1, x, p :: S => match ((shs.lookup x).getD .any).get p, slG shs n (x + 1) S with | some a, some b => some (a ++ b) | _, _ => none
  | _, _, _ => none
def slP (shs : List (Nat × X1)) : Nat → Nat → List L1 → List PV
  | 0, _, _ => []
  | n + 1, x, xs => ((shs.lookup x).getD .any).put (xs.take ((shs.lookup x).getD .any).len) :: slP shs n (x + 1) (xs.drop ((shs.lookup x).getD .any).len)
theorem slG_P {shs : List (Nat × X1)} : ∀ {n x : Nat} {S : List PV} {xs : List L1}, slG shs n x S = some xs → S = slP shs n x xs
  | 0, _, [], _, _ => rfl
  | 0, _, _ :: _, _, h => by simp [slG] at h
  | _ + 1, _, [], _, h => by simp [slG] at h
  | n + 1, x, p :: S, xs, h => by
    simp only [slG] at h
    split at h
    · rename_i a b h1 h2
      cases h
      obtain ⟨e1, e2⟩ := X1.get_put _ h1
      simp only [slP]
      rw [← e2, List.take_left, List.drop_left, ← e1, ← slG_P h2]
    · cases h
abbrev LS := List L1 × List L1
structure S1 where
  n : Nat
  S : List (Nat × X1)
  H : List Y1
def S1.get (s : S1) (S : List PV) (H : List Row) : Option LS := match slG s.S s.n 0 S, Y1.gets s.H H with | some a, some b => some (a, b) | _, _ => none
def S1.put (s : S1) (x : LS) : List PV × List Row := (slP s.S s.n 0 x.1, Y1.puts s.H x.2)
theorem S1.get_put {s : S1} : ∀ S H x, s.get S H = some x → S = (s.put x).1 ∧ H = (s.put x).2 := by
  intro S H x h
  unfold S1.get at h
  split at h
  · rename_i a b h1 h2; cases h; exact ⟨slG_P h1, Y1.gets_puts h2⟩
  · cases h
/-- One more contract for a loop: it is asked first. -/
def EnvK.addL2 (E : EnvK) (k : FuncId) (i : Nat) (l : List Tmp) (c : Nat → List PV → List Row → Option (DT (PX × List PV × List Row))) : EnvK :=
  { E with live := fun f j => if f = k then (if j = i then some l else E.live f j) else E.live f j
           lo := fun f ro j S H => if f = k then (if j = i then (match c ro S H with | some d => some d | none => E.lo f ro j S H) else E.lo f ro j S H) else E.lo f ro j S H }
theorem EnvOK.addL2 {P : Program} {E : EnvK} (hE : EnvOK P E.env) {k i : Nat} {l : List Tmp} {c : Nat → List PV → List Row → Option (DT (PX × List PV × List Row))} {fn : Func} {body b0 : Code} (hf : P.funcs[k]? = some fn) (hb : fn.body = some body)
    (h0 : (loops body).filter (fun b => rid b == i) = [b0]) (hc : SubCode P k (.loop b0) → ∀ ro S H d x S' H', c ro S H = some d → d.run = some (x, S', H') → WpTo P (.loop b0) ro S H x S' H') : EnvOK P (E.addL2 k i l c).env where
  ent := hE.ent
  cal := hE.cal
  ora := hE.ora
  lo := fun f fn' b' h1 h2 => by
    refine LoH.of fun b hm hs ro S H x S' H' g => ?_
    change ((if f = k then (if rid b = i then (match c ro S H with | some d => some d | none => E.lo f ro (rid b) S H) else E.lo f ro (rid b) S H) else E.lo f ro (rid b) S H)).bind DT.run = some (x, S', H') at g
    have old : (E.lo f ro (rid b) S H).bind DT.run = some (x, S', H') → WpTo P (.loop b) ro S H x S' H' := fun g => (LoH.sub (P := P) (E := E.env) hs (hE.lo f fn' b' h1 h2)).1 ro S H x S' H' g
    split at g
    · rename_i e
      subst e
      split at g
      · rename_i e2
        split at g
        · rename_i d hd
          rw [hf] at h1; cases h1
          rw [hb] at h2; cases h2
          have hb0 : b = b0 := by
            have : b ∈ (loops body).filter (fun b => rid b == i) := List.mem_filter.2 ⟨hm, by simp [e2]⟩
            rw [h0] at this
            simpa using this
          subst hb0
          exact hc ⟨fn, body, hf, hb, hs⟩ ro S H d x S' H' hd g
        · exact old g
      · exact old g
    · exact old g
/-- The loop with this number: states of this shape for which 'pre' holds come to 'fin'. -/
def EnvK.addW (E : EnvK) (k i : Nat) (l : List Tmp) (sel : List Bool) (sh : S1) (pre : LS → Bool) (fin : LS → DT (PX × List PV × List Row)) : EnvK := E.addL2 k i l (byModel sel sh.get pre fin)
theorem EnvOK.addW {P : Program} {E : EnvK} (hE : EnvOK P E.env) {n : Nat} {k i : Nat} {fn : Func} {body b : Code} (hf : P.funcs[k]? = some fn) (hb : fn.body = some body) (h0 : (loops body).filter (fun b => rid b == i) = [b])
    (l l' : List Tmp) (sel : List Bool) (sh : S1) {pre : LS → Bool} (m : LS → Nat) {fin : LS → DT (PX × List PV × List Row)}
    (hstep : ∀ s r, pre s = true → (fin s).run = some r → r.1 ≠ .normal ∧ (runB P E n k b l l' (sh.put s).1 (sh.put s).2 = some r ∨
      ∃ s', runB P E n k b l l' (sh.put s).1 (sh.put s).2 = some (.normal, sh.put s') ∧ pre s' = true ∧ m s' < m s ∧ (fin s').run = some r)) :
    EnvOK P (E.addW k i l sel sh pre fin).env :=
  hE.addL2 hf hb h0 fun hs ro S H d x S' H' => loopW hE l l' sh.put S1.get_put m hstep hs ro S H d x S' H'
/-- At a loop, or at a range over a function (by the number of what it assigns), only these slots are kept. -/
def EnvK.addV (E : EnvK) (k i : Nat) (l : List Tmp) : EnvK := { E with live := fun f j => if f = k then (if j = i then some l else E.live f j) else E.live f j }
theorem EnvOK.addV {P : Program} {E : EnvK} (hE : EnvOK P E.env) (k i : Nat) (l : List Tmp) : EnvOK P (E.addV k i l).env where
  ent := hE.ent
  cal := hE.cal
  ora := hE.ora
  lo := fun f fn b h1 h2 => LoH.mono (E := E.env) (E' := (E.addV k i l).env) (fun _ _ _ _ _ _ _ g => g) (hE.lo f fn b h1 h2)
/-- The ranges over functions in code. -/
def rfs : Code → List (Array Tmp × Code × Code)
  | .seq a b => rfs a ++ rfs b
  | .cond _ x y => rfs x ++ rfs y
  | .block _ b => rfs b
  | .loop b => rfs b
  | .scope b => rfs b
  | .rangeFunc _ ps a b => (ps, a, b) :: (rfs a ++ rfs b)
  | _ => []
noncomputable def rfb (fn : Func) (i : Nat) : Array Tmp × Code × Code := ((rfs (bod fn)).filter fun x => rid x.2.1 == i).headD (#[], .skip, .skip)
noncomputable def lrow (f : FuncId) (fn : Func) (i : Nat) (S : List PV) (st : LSt) : Row := { es := [], s := 0, t := 0, bv := true, live := false, lp := some ⟨⟨f, S, (rfb fn i).1, (rfb fn i).2.1, (rfb fn i).2.2⟩, st⟩ }
/-- Equality of anything, as a Bool that does not compute. -/
noncomputable def same {α : Type} (a b : α) : Bool := @decide (a = b) (Classical.propDecidable _)
theorem same_iff {α : Type} {a b : α} : same a b = true ↔ a = b := by unfold same; exact @decide_eq_true_iff _ (Classical.propDecidable _)
theorem same_self {α : Type} (a : α) : same a a = true := same_iff.2 rfl
end Go.Hx
