/- Hx: the machine: calls, regions, code. -/
import Derived.Test.YtadcoepikgjgmaaHxMask
import Derived.Test.YtadcoepikgjgmaaHxMore
namespace Go.Hx

inductive PX where
  | normal | exit (id : Nat) | ret
  deriving DecidableEq, Inhabited

/-- What is known beside the code: contracts of functions (by value), which slots are live at a loop's head, what a loop comes to, whose new rows are kept. -/
structure Env where
  ora : FuncId → List PV → Option PV := fun _ _ => none
  live : FuncId → Nat → Option (List Tmp) := fun _ _ => none
  lo : FuncId → Nat → Nat → List PV → List Row → Option (PX × List PV × List Row) := fun _ _ _ _ _ => none
  keep : FuncId → Bool := fun _ => false
  cal : Nat → FuncId → List PV → List Row → Option (PV × List Row) := fun _ _ _ _ => none
  nils : FuncId → Nat → List (Tmp × TypeId × Nat) := fun _ _ => []
  pure : FuncId → Bool := fun _ => false

mutual
def plain : PV → Bool
  | .val _ => true
  | .any => true
  | .agg cs => plains cs
  | .tup cs => plains cs
  | .ifc _ v => plain v
  | _ => false
def plains : List PV → Bool
  | [] => true
  | p :: ps => plain p && plains ps
end
theorem plains_get : ∀ {ps : List PV} {j : Nat} {p : PV}, plains ps = true → ps[j]? = some p → plain p = true
  | [], j, p, _, hj => by simp at hj
  | q :: ps, 0, p, hm, hj => by simp at hj; subst hj; simp only [plains, Bool.and_eq_true] at hm; exact hm.1
  | q :: ps, j + 1, p, hm, hj => by simp only [plains, Bool.and_eq_true] at hm; exact plains_get hm.2 (by simpa using hj)
theorem RV.plain {P : Program} {C C' : Ctx} {p : PV} {V : Value} (hv : RV P C p V) : plain p = true → RV P C' p V := by
  induction hv with
  | any => intro _; exact .any
  | val => intro _; exact .val
  | agg hs _ ih => intro hm; exact .agg hs fun j c v h1 h2 => ih j c v h1 h2 (plains_get (by simpa [Hx.plain] using hm) h1)
  | tup hs _ ih => intro hm; exact .tup hs fun j c v h1 h2 => ih j c v h1 h2 (plains_get (by simpa [Hx.plain] using hm) h1)
  | ifc _ ih => intro hm; exact .ifc (ih (by simpa [Hx.plain] using hm))
  | ptr => intro hm; simp [Hx.plain] at hm
  | lptr => intro hm; simp [Hx.plain] at hm
  | sl => intro hm; simp [Hx.plain] at hm
  | lst => intro hm; simp [Hx.plain] at hm
  | fn => intro hm; simp [Hx.plain] at hm
  | yld => intro hm; simp [Hx.plain] at hm

def resOne (P : Program) (S : List PV) (H : List Row) : ResultVar → Option PV
  | .tmp t => some (S.getD t (.val undef))
  | .cell a t => if okPtr H (S.getD a (.val undef)) then loadQ P H t (S.getD a (.val undef)) else none
def resAll (P : Program) (S : List PV) (H : List Row) : List ResultVar → Option (List PV)
  | [] => some []
  | r :: rs => match resOne P S H r, resAll P S H rs with | some p, some ps => some (p :: ps) | _, _ => none
def resQ (P : Program) (fn : Func) (S : List PV) (H : List Row) : Option PV :=
  match resAll P S H fn.results.toList with
  | some [p] => some p
  | some ps => some (.tup ps)
  | none => none

def settle (h : Nat) (p : PV) (H : List Row) : PV × List Row :=
  if mlt h (frz H h p) && rowsOk h (H.take h) then (frz H h p, H.take h) else (p, H)

abbrev Ex := Nat → FuncId → Code → List PV → List Row → Option (PX × List PV × List Row)

/-- A call by contract. -/
def callO (E : Env) (k : FuncId) (args : List PV) (H : List Row) : Option PV :=
  match E.ora k (frzs H 0 args) with
  | some r => if mlts 0 (frzs H 0 args) && mlt 0 r && (plain r || mlts 0 args) then some r else none
  | none => none
/-- A call that is walked into: what it leaves. -/
def callX (P : Program) (ex : Ex) (ro : Nat) (k : FuncId) (args : List PV) (H : List Row) : Option (PV × List Row) :=
  match P.funcs[k]? with
  | some fn =>
    match fn.body with
    | some b =>
      if fn.name == "runtime.NumGoroutine" then none else
      match ex ro k b (args ++ List.replicate (fn.ntmps - args.length) (.val undef)) H with
      | some (.normal, S', H') | some (.ret, S', H') => (resQ P fn S' H').map fun p => (p, H')
      | _ => none
    | none => none
  | none => none
/-- By contract on the rows, else walked into. -/
def callI (P : Program) (E : Env) (ex : Ex) (ro : Nat) (k : FuncId) (args : List PV) (H : List Row) : Option (PV × List Row) :=
  match E.cal ro k args H with
  | some r => some r
  | none => callX P ex ro k args H
def callG (P : Program) (E : Env) (ex : Ex) (ro : Nat) (k : FuncId) (args : List PV) (H : List Row) : Option (PV × List Row) :=
  match callO E k args H with
  | some r => some (r, H)
  | none =>
    match callI P E ex ro k args H with
    | some (p, H') => if E.keep k then some (p, H') else some (settle H.length p H')
    | none => none
/-- A call that turns nothing that was there. -/
def callE (P : Program) (E : Env) (ex : Ex) (k : FuncId) (args : List PV) (H : List Row) : Option PV :=
  if mlts H.length args && rowsOk H.length H then
    match callO E k args H with
    | some r => some r
    | none =>
      match callI P E ex H.length k args H with
      | some (p, H') => if mlt H.length (frz H' H.length p) then some (frz H' H.length p) else none
      | none => none
  else none

/-! A range over a function: its loop is a row without cells. -/
def setPs (S : List PV) (ps : List Tmp) (args : List PV) : List PV := (ps.zip args).foldl (fun S x => S.set x.1 x.2) S
def setSt (H : List Row) (i : Nat) (st : LSt) : Option (List Row) :=
  match H[i]? with
  | some r => match r.live, r.lp with | false, some info => some (H.set i { r with lp := some ⟨info.k, st⟩ }) | _, _ => none
  | none => none
def loopAt (H : List Row) (i : Nat) : Option LoopI :=
  match H[i]? with
  | some r => match r.live with | false => r.lp | true => none
  | none => none
def jumpOf : PX → Option Code
  | .normal => none
  | .exit id => some (.exit id)
  | .ret => some .ret
/-- A round: what yield hands back, and the rows. -/
def yieldQ (ex : Ex) (ro i : Nat) (args : List PV) (H : List Row) : Option (Bool × List Row) :=
  match loopAt H i with
  | some ⟨k, .ready⟩ =>
    if decide (ro ≤ i) && args.length == k.ps.size then
      match ex ro k.f k.asg (setPs k.S0 k.ps.toList args) H with
      | some (.normal, S1, H1) =>
        match loopAt H1 i, setSt H1 i .busy with
        | some ⟨_, .ready⟩, some H2 =>
          match ex ro k.f k.body S1 H2 with
          | some (x, _, H3) =>
            match jumpOf x with
            | none => (setSt H3 i .ready).map fun H4 => (true, H4)
            | some j => (setSt H3 i (.done j)).map fun H4 => (false, H4)
          | none => none
        | _, _ => none
      | _ => none
    else none
  | _ => none
def loopRow (f : FuncId) (S : List PV) (ps : Array Tmp) (asg body : Code) : Row := { es := [], s := 0, t := 0, bv := true, live := false, lp := some ⟨⟨f, S, ps, asg, body⟩, .ready⟩ }
/-- Behind the loop: the pending jump. -/
def overQ (S : List PV) (i : Nat) (H : List Row) : Option (PX × List PV × List Row) :=
  match loopAt H i, setSt H i .over with
  | some ⟨_, .ready⟩, some H' => some (.normal, S, H')
  | some ⟨_, .done .ret⟩, some H' => some (.ret, S, H')
  | some ⟨_, .done (.exit id)⟩, some H' => some (.exit id, S, H')
  | _, _ => none

def stepS (P : Program) (E : Env) (ex : Ex) (ro : Nat) (S : List PV) (H : List Row) (o : Oper) : Option (PV × List Row) :=
  match popQ P H (ev S) o.op with
  | some p => some (p, H)
  | none =>
    match newQ P H (ev S) o.op with
    | some (p, r) => some (p, H ++ [r])
    | none =>
      match o.op with
      | .store T a x => (storeQ P ro H T (ev S a) (ev S x)).map fun H' => (.val undef, H')
      | .call c =>
        match c.callee with
        | .builtin .append => match c.args.toList with | [x, y] => appendQ P ro H c (ev S x) (ev S y) | _ => none
        | .value g =>
          match ev S g with
          | .fn (.func k) first cap => callG P E ex ro k (first ++ c.args.toList.map (ev S) ++ cap) H
          | .yld i => (yieldQ ex ro i (c.args.toList.map (ev S)) H).map fun r => (.val (.bool r.1), r.2)
          | _ => none
        | _ => moreQ P ro H (ev S) o.op
      | _ => moreQ P ro H (ev S) o.op

/-- An operation that only makes new rows. -/
def stepE (P : Program) (E : Env) (ex : Ex) (S : List PV) (H : List Row) (o : Oper) : Option (PV × List Row) :=
  match popQ P H (ev S) o.op with
  | some p => some (p, H)
  | none =>
    match newQ P H (ev S) o.op with
    | some (p, r) => some (p, H ++ [r])
    | none =>
      match o.op with
      | .call c =>
        match c.callee with
        | .value g => match ev S g with | .fn (.func k) first cap => (callE P E ex k (first ++ c.args.toList.map (ev S) ++ cap) H).map fun p => (p, H) | _ => none
        | _ => none
      | _ => none

def putS (S : List PV) (d : Option Tmp) (p : PV) : List PV := match d with | some d => S.set d p | none => S

/-- Is the operation wanted? (and the slot of its guard, once that is known) -/
def guardQ (ops : Array Oper) (S : List PV) (o : Oper) : Option (Bool × List PV) :=
  match o.guard with
  | none => some (true, S)
  | some (j, want) =>
    match (ops[j]?).bind (·.dst) with
    | none => some (false, S)
    | some d =>
      match S[d]? with
      | none => some (false, S)
      | some (.val (.bool t)) => match t with | true => some (want, S.set d (.val (.bool true))) | false => some (!want, S.set d (.val (.bool false)))
      | some (.val _) => some (false, S)
      | some _ => none

def opsQ (step : List PV → List Row → Oper → Option (PV × List Row)) (ops : Array Oper) : List Oper → List PV → List Row → Option (List PV × List Row)
  | [], S, H => some (S, H)
  | o :: os, S, H =>
    match guardQ ops S o with
    | some (true, S1) => match step S1 H o with | some (p, H1) => opsQ step ops os (putS S1 o.dst p) H1 | none => none
    | some (false, S1) => opsQ step ops os (putS S1 o.dst (.val undef)) H
    | none => none

/-- The operations before each, as bits. -/
def maskOf (acc : List Nat) (o : Oper) : Nat := o.after.toList.foldl (fun s e => if Region.binds .any e then s ||| 2 ^ e.on ||| acc.getD e.on 0 else s) 0
def masks : List Oper → List Nat → List Nat
  | [], acc => acc
  | o :: os, acc => masks os (acc ++ [maskOf acc o])
/-- Whichever order: operations that name one slot, one of them writing it, are in order; what is waited for comes before. -/
def drawOk (P : Program) (ops : List Oper) : Bool :=
  let m := masks ops []
  P.follows .mixedOrders && Region.noSelect ops.toArray &&
  (ops.zipIdx.all fun (o, j) => o.after.all (fun e => !Region.binds .any e || decide (e.on < j)) &&
    (ops.zipIdx.all fun (q, i) => !decide (i < j) || (q.apart ops.toArray o) || (m.getD j 0).testBit i))

/-! Regions that draw their order and write: what each operation may write is guessed; what is unordered with a writer of a row does not see that row. -/
def isStore (o : Oper) : Bool := match o.op with | .store _ _ _ => true | _ => false
def ptrRows (args : List PV) : List Nat := args.filterMap fun p => match p with | .ptr i _ _ _ => some i | _ => none
def wRows (pure : FuncId → Bool) (f : FuncId) (args : List PV) : List Nat := match pure f with | true => [] | false => ptrRows args
def wcallQ (S : List PV) (op : Op) : Option (FuncId × List PV) :=
  match op with
  | .call c =>
    match c.callee with
    | .value g => match ev S g with | .fn (.func f) first cap => some (f, first ++ c.args.toList.map (ev S) ++ cap) | _ => none
    | _ => none
  | _ => none
/-- An append to a row: the call, the row, the slice, what is put on. -/
def growQ (S : List PV) (op : Op) : Option (Call × Nat × PV × PV) :=
  match op with
  | .call c =>
    match c.callee with
    | .builtin .append =>
      match c.args.toList with
      | [x, y] => match ev S x with | .sl i n 0 len => some (c, i, .sl i n 0 len, ev S y) | _ => none
      | _ => none
    | _ => none
  | _ => none
def guessW (pu : FuncId → Bool) (S : List PV) : List Oper → Nat → List (Bool × List Nat × List Nat)
  | [], _ => []
  | o :: os, h =>
    match o.op with
    | .store _ a _ => (true, ptrRows [ev S a], []) :: guessW pu S os h
    | .alloc _ => (false, [h], []) :: guessW pu (putS S o.dst (.ptr h 0 0 0)) os (h + 1)
    | .box _ _ => (false, [h], []) :: guessW pu (putS S o.dst (.ptr h 0 0 0)) os (h + 1)
    | .buildSlice _ _ _ => (false, [h], []) :: guessW pu (putS S o.dst (.sl h 0 0 0)) os (h + 1)
    | .makeSlice _ _ _ => (false, [h], []) :: guessW pu (putS S o.dst .any) os (h + 1)
    | .fieldAddr _ x _ => (false, [], []) :: guessW pu (putS S o.dst (ev S x)) os h
    | .indexAddr _ x _ => (false, [], []) :: guessW pu (putS S o.dst (match ev S x with | .sl i n k _ => .ptr i n k 0 | p => p)) os h
    | .move x => (false, [], []) :: guessW pu (putS S o.dst (ev S x)) os h
    | .assign x => (false, [], []) :: guessW pu (putS S o.dst (ev S x)) os h
    | .nilCheck x => (false, [], []) :: guessW pu (putS S o.dst (ev S x)) os h
    | op =>
      match wcallQ S op with
      | some (f, args) => (!(wRows pu f args).isEmpty, wRows pu f args, []) :: guessW pu (putS S o.dst .any) os h
      | none =>
        match growQ S op with
        | some (_, i, _, _) => (true, [i], [i]) :: guessW pu (putS S o.dst (.sl i 0 0 0)) os h
        | none => (false, [], []) :: guessW pu (putS S o.dst .any) os h
def confl (W : List (List Nat)) (m : List Nat) (n j : Nat) : List Nat :=
  (List.range n).flatMap fun i => match i == j || (m.getD j 0).testBit i || (m.getD i 0).testBit j with | true => [] | false => W.getD i []
def shpB (r r' : Row) : Bool := r.live && r'.live && r.s == r'.s && r.es.length == r'.es.length && r.nl == r'.nl && r.t == r'.t && r.lp.isNone && r'.lp.isNone
def shpsB (K : List Nat) (H H' : List Row) : Bool := K.all fun x => match H[x]?, H'[x]? with | some r, some r' => shpB r r' | _, _ => false

/-- Rows that another operation may let grow are not there. -/
def kill (K : List Nat) (H : List Row) : List Row := H.zipIdx.map fun x => match K.contains x.2 with | true => deadRow x.1 | false => x.1
def stepX (P : Program) (E : Env) (ex : Ex) (K : List Nat) (S : List PV) (H : List Row) (o : Oper) : Option (PV × List Row) :=
  match K with
  | [] => stepE P E ex S H o
  | k :: K =>
    match popQ P (kill (k :: K) H) (ev S) o.op with
    | some p => some (p, H)
    | none => (newQ P H (ev S) o.op).map fun x => (x.1, H ++ [x.2])
def stepME (P : Program) (E : Env) (ex : Ex) (W R K : List Nat) (S : List PV) (H : List Row) (o : Oper) : Option (PV × List Row) :=
  match stepX P E ex K S (poison R H) o with
  | some (p, H1) =>
    match H1.drop H.length with
    | [] => some (p, H)
    | [r] => if W.contains H.length && !R.contains H.length then some (p, H ++ [r]) else none
    | _ => none
  | none => none
def srcFree (R : List Nat) : PV → Bool
  | .sl i _ _ _ => !R.contains i
  | .lst _ _ _ => true
  | _ => false
def stepM (P : Program) (E : Env) (ex : Ex) (ro : Nat) (W R K G : List Nat) (S : List PV) (H : List Row) (o : Oper) : Option (PV × List Row) :=
  match o.op with
  | .store T a x =>
    match ev S a with
    | .ptr i n k j => if W.contains i && !R.contains i then (storeQ P ro H T (.ptr i n k j) (ev S x)).map fun H' => (.val undef, H') else none
    | _ => none
  | _ =>
    match wcallQ S o.op with
    | some (f, args) =>
      match wRows E.pure f args with
      | [] => stepME P E ex W R K S H o
      | K =>
        if K.all (fun x => W.contains x && !R.contains x) && args.all (argOk H.length) && decide (ro ≤ H.length) && rowsOk 0 (maskH K H) then
          match callI P E ex ro f args (maskH K H) with
          | some (p, H') => if plain p && rowsOk 0 (maskH K (H'.take H.length)) && shpsB K H H' then some (p, backH K H H') else none
          | none => none
        else none
    | none =>
      match growQ S o.op with
      | some (c, i, x, y) => if W.contains i && !R.contains i && G.contains i && srcFree R y then appendQ P ro H c x y else none
      | none => stepME P E ex W R K S H o

/-- The operations one by one, by their numbers. -/
def opsJ (step : Nat → List PV → List Row → Oper → Option (PV × List Row)) (ops : Array Oper) : Nat → List Oper → List PV → List Row → Option (List PV × List Row)
  | _, [], S, H => some (S, H)
  | j, o :: os, S, H =>
    match guardQ ops S o with
    | some (true, S1) => match step j S1 H o with | some (p, H1) => opsJ step ops (j + 1) os (putS S1 o.dst p) H1 | none => none
    | some (false, S1) => opsJ step ops (j + 1) os (putS S1 o.dst (.val undef)) H
    | none => none
/-- One operation of a drawn region (a yield) that all others are in order with. -/
def stepP (P : Program) (E : Env) (ex : Ex) (S : List PV) (H : List Row) (o : Oper) : Option (PV × List Row) :=
  match stepE P E ex S H o with
  | some (p, H1) => if H1.length = H.length then some (p, H) else none
  | none => none
def stepsP (P : Program) (E : Env) (ex : Ex) (ro pv j : Nat) (S : List PV) (H : List Row) (o : Oper) : Option (PV × List Row) :=
  if j = pv then stepS P E ex ro S H o else stepP P E ex S H o
def isYld : PV → Bool
  | .yld _ => true
  | _ => false
def yldOp (ops : List Oper) (S : List PV) (o : Oper) : Bool :=
  match o.op with
  | .call c =>
    match c.callee with
    | .value (.tmp t) => isYld (ev S (.tmp t)) || ops.any fun o => match o.dst, o.op with | some d, .move x => d == t && isYld (ev S x) | _, _ => false
    | _ => false
  | _ => false
def pivot (ops : List Oper) (S : List PV) : Option Nat := ops.findIdx? (yldOp ops S)
def pivotOk (m : List Nat) (n pv : Nat) : Bool := decide (pv < n) && (List.range n).all fun j => j == pv || (m.getD pv 0).testBit j || (m.getD j 0).testBit pv
def mixed (G : List (Bool × List Nat × List Nat)) : Bool := G.any fun x => x.1
def stepsM (P : Program) (E : Env) (ex : Ex) (ro : Nat) (W G : List (List Nat)) (m : List Nat) (n j : Nat) : List PV → List Row → Oper → Option (PV × List Row) :=
  stepM P E ex ro (W.getD j []) (confl W m n j) (confl G m n j) (G.getD j [])

def rid : Code → Nat
  | .region id _ _ => id
  | .seq a _ => rid a
  | .block _ b => rid b
  | .loop b => rid b
  | .scope b => rid b
  | _ => 0

def keepS (l : Option (List Tmp)) (S : List PV) : List PV :=
  match l with
  | some l => S.zipIdx.map fun (p, i) => if l.contains i then p else .any
  | none => S
/-- Nil slices in these slots are rows without elements from here on. -/
def nilsQ : List (Tmp × TypeId × Nat) → List PV → List Row → List PV × List Row
  | [], S, H => (S, H)
  | (d, t, s) :: l, S, H =>
    match S[d]? with
    | some (.val (.slice none 0 0)) => nilsQ l (S.set d (.sl H.length 0 0 0)) (H ++ [{ es := [], s, t, bv := true, nl := true }])
    | _ => nilsQ l S H
/-- At a loop's head: the rows of the round are let go, and what named them. -/
def trimS (h : Nat) (S : List PV) : List PV := S.map fun p => if mlt h p then p else .any

/-- The rounds of a loop, at most so many. -/
def iterQ (body : List PV → List Row → Option (PX × List PV × List Row)) (live : Option (List Tmp)) (ro : Nat) : Nat → List PV → List Row → Option (PX × List PV × List Row)
  | 0, _, _ => none
  | m + 1, S, H =>
    match body (keepS live S) H with
    | some (.normal, S1, H1) =>
      if mlts H.length (keepS live S1) && decide (H.length ≤ H1.length) && rowsOk H.length (H1.take H.length) && decide (ro ≤ H.length) then iterQ body live ro m (trimS H.length (keepS live S1)) (H1.take H.length)
      else iterQ body live ro m (keepS live S1) H1
    | r => r

def exec (P : Program) (E : Env) : Nat → Ex
  | 0 => fun _ _ _ _ _ => none
  | n + 1 => fun ro f c S H =>
    match c with
    | .skip => some (.normal, S, H)
    | .label _ => some (.normal, S, H)
    | .region _ ops draw =>
      if draw then
        if drawOk P ops.toList then
          match pivot ops.toList S with
          | some pv =>
            if pivotOk (masks ops.toList []) ops.size pv then (opsJ (stepsP P E (exec P E n) ro pv) ops 0 ops.toList S H).map fun r => (.normal, r.1, r.2)
            else none
          | none =>
            if mixed (guessW E.pure S ops.toList H.length) then
              (opsJ (stepsM P E (exec P E n) ro ((guessW E.pure S ops.toList H.length).map fun x => x.2.1) ((guessW E.pure S ops.toList H.length).map fun x => x.2.2) (masks ops.toList []) ops.size) ops 0 ops.toList S H).map fun r => (.normal, r.1, r.2)
            else (opsQ (stepE P E (exec P E n)) ops ops.toList S H).map fun r => (.normal, r.1, r.2)
        else none
      else (opsQ (stepS P E (exec P E n) ro) ops ops.toList S H).map fun r => (.normal, r.1, r.2)
    | .seq a b =>
      match exec P E n ro f a S H with
      | some (.normal, S1, H1) => exec P E n ro f b S1 H1
      | r => r
    | .cond c x y =>
      match ev S c with
      | .val (.bool t) => match t with | true => exec P E n ro f x S H | false => exec P E n ro f y S H
      | _ => none
    | .block id b =>
      match exec P E n ro f b S H with
      | some (.exit i, S1, H1) => if i = id then some (.normal, S1, H1) else some (.exit i, S1, H1)
      | r => r
    | .loop b =>
      match E.lo f ro (rid b) (keepS (E.live f (rid b)) (nilsQ (E.nils f (rid b)) S H).1) (nilsQ (E.nils f (rid b)) S H).2 with
      | some r => some r
      | none => iterQ (exec P E n ro f b) (E.live f (rid b)) ro n (nilsQ (E.nils f (rid b)) S H).1 (nilsQ (E.nils f (rid b)) S H).2
    | .scope b => exec P E n ro f b S H
    | .exit id => some (.exit id, S, H)
    | .ret => some (.ret, S, H)
    | .rangeFunc g ps asg body =>
      match ev (keepS (E.live f (rid asg)) S) g with
      | .fn (.func k) first cap =>
        match callI P E (exec P E n) ro k (first ++ [.yld H.length] ++ cap) (H ++ [loopRow f (keepS (E.live f (rid asg)) S) ps asg body]) with
        | some (_, H2) => overQ (keepS (E.live f (rid asg)) S) H.length H2
        | none => none
      | _ => none
    | _ => none
end Go.Hx
