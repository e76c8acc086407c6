/- Hx: all operations that change nothing, in one function. -/
import Derived.Test.YtneklpbkfmljfaaHxQuiet
namespace Go.Hx

def lenQ (P : Program) (T : TypeId) (x : PV) : Option PV :=
  match P.underlying T, x with
  | some .string, .val (.string s) => some (.val (.int .i64 s.size))
  | some (.array n _), _ => some (.val (.int .i64 n))
  | some (.slice _), .sl _ _ _ len => some (.val (.int .i64 len))
  | some (.slice _), .lst _ _ es => some (.val (.int .i64 es.length))
  | some (.slice _), .val (.slice _ n _) => some (.val (.int .i64 n))
  | _, _ => none
def min2Q : PV → PV → Option PV
  | .val (.int k x), .val (.int _ y) => some (.val (.int k (if y < x then y else x)))
  | _, _ => none
def max2Q : PV → PV → Option PV
  | .val (.int k x), .val (.int _ y) => some (.val (.int k (if y > x then y else x)))
  | _, _ => none
def foldQ (f : PV → PV → Option PV) : PV → List PV → Option PV
  | x, [] => some x
  | x, y :: ys => match f x y with | some z => foldQ f z ys | none => none

def pickQ (c a b : PV) : Option PV :=
  match c with
  | .val (.bool t) =>
    match a, b with
    | .val (.bool x), .val (.bool y) => some (.val (.bool (bif t then x else y)))
    | a, b => match t with | true => some a | false => some b
  | _ => none

def okNil (H : List Row) : PV → Bool
  | .fn (.func _) _ _ => true
  | .ifc _ _ => true
  | .sl _ _ _ _ => true
  | .lst _ _ _ => true
  | p => okPtr H p

def callQ (P : Program) (f : Operand → PV) (c : Call) : Option PV :=
  match c.callee with
  | .builtin .len => match c.args.toList, c.argTypes[0]? with | [x], some T => lenQ P T (f x) | _, _ => none
  | .builtin .min => match c.args.toList with | x :: xs => foldQ min2Q (f x) (xs.map f) | [] => none
  | .builtin .max => match c.args.toList with | x :: xs => foldQ max2Q (f x) (xs.map f) | [] => none
  | _ => none

def popQ (P : Program) (H : List Row) (f : Operand → PV) : Op → Option PV
  | .move x | .assign x => some (f x)
  | .pick c a b => pickQ (f c) (f a) (f b)
  | .build t parts => buildQ P t (parts.toList.map fun x => (x.1, f x.2))
  | .load t a => loadQ P H t (f a)
  | .nilCheck x => if okNil H (f x) then some (f x) else none
  | .binOp op t x y _ => binV P op t x y (f x) (f y)
  | .unOp op _ x => unV op (f x)
  | .convert s d x => convV P s d (f x)
  | .makeInterface t x => match P.underlying t with | some (.interface _) | none => none | some _ => some (.ifc t (f x))
  | .makeFunc fn a b => some (.fn fn (a.toList.map f) (b.toList.map f))
  | .slice t x lo hi mx => match P.underlying t with | some (.array _ _) => none | _ => sliceQ P H t (f x) (lo.map f) (hi.map f) (mx.map f)
  | .fieldAddr t x i => fieldAddrQ P H t i (f x)
  | .field t x i => fieldQ P t i (f x)
  | .indexAddr t x ix => indexAddrQ P H t (f x) (f ix)
  | .index t x ix => indexQ P t (f x) (f ix)
  | .extract t i => extractQ i (f t)
  | .call c => callQ P f c
  | _ => none

section
variable {P : Program} {C : Ctx}
theorem lenQ_sound {T : TypeId} {x p : PV} {X : Value} (hx : RV P C x X) (h : lenQ P T x = some p) (ts : Array TypeId) (ht : ts[0]? = some T) (ty : TypeId) :
    ∃ v, (Builtin.len_ ts ty #[X]).run P C.w = .ok v C.w ∧ RV P C p v := by
  unfold lenQ at h
  split at h
  · rename_i hu; cases hx; cases h; exact ⟨_, by simp [Builtin.len_, ht, run_underlying hu, goInt], .val⟩
  · rename_i hu; cases h; exact ⟨_, by simp [Builtin.len_, ht, run_underlying hu, goInt], .val⟩
  · rename_i hu; cases h
    cases hx with
    | sl hV => obtain ⟨a, c, rfl⟩ := hV; exact ⟨_, by simp [Builtin.len_, ht, run_underlying hu, goInt], .val⟩
  · rename_i hu; cases h
    cases hx with
    | lst => exact ⟨_, by simp [Builtin.len_, ht, run_underlying hu, goInt], .val⟩
  · rename_i hu; cases hx; cases h; exact ⟨_, by simp [Builtin.len_, ht, run_underlying hu, goInt], .val⟩
  · cases h

theorem foldQ_sound {f : PV → PV → Option PV} {g : Value → Value → Sem Value} (hf : ∀ {x y z : PV} {X Y : Value}, RV P C x X → RV P C y Y → f x y = some z → ∃ Z, (g X Y).run P C.w = .ok Z C.w ∧ RV P C z Z) :
    ∀ {xs : List PV} {x z : PV} {X : Value} {Xs : List Value}, RV P C x X → xs.length = Xs.length → (∀ (j : Nat) p v, xs[j]? = some p → Xs[j]? = some v → RV P C p v) → foldQ f x xs = some z →
      ∃ Z, (Xs.foldlM g X).run P C.w = .ok Z C.w ∧ RV P C z Z
  | [], x, z, X, [], hx, _, _, h => by simp only [foldQ, Option.some.injEq] at h; subst h; exact ⟨X, by simp, hx⟩
  | [], _, _, _, _ :: _, _, hl, _, _ => by simp at hl
  | _ :: _, _, _, _, [], _, hl, _, _ => by simp at hl
  | y :: ys, x, z, X, Y :: Ys, hx, hl, hall, h => by
    simp only [foldQ] at h
    split at h
    · rename_i q hq
      obtain ⟨Z, h1, h2⟩ := hf hx (hall 0 y Y rfl rfl) hq
      obtain ⟨Z', h3, h4⟩ := foldQ_sound hf h2 (by simpa using hl) (fun j p v g1 g2 => hall (j + 1) p v g1 g2) h
      exact ⟨Z', by simp [List.foldlM_cons, h1, h3], h4⟩
    · cases h

theorem min2Q_sound {x y z : PV} {X Y : Value} (hx : RV P C x X) (hy : RV P C y Y) (h : min2Q x y = some z) : ∃ Z, (Builtin.min2 X Y).run P C.w = .ok Z C.w ∧ RV P C z Z := by
  unfold min2Q at h
  split at h
  · cases hx; cases hy; cases h; exact ⟨_, by simp [Builtin.min2], .val⟩
  · cases h
theorem max2Q_sound {x y z : PV} {X Y : Value} (hx : RV P C x X) (hy : RV P C y Y) (h : max2Q x y = some z) : ∃ Z, (Builtin.max2 X Y).run P C.w = .ok Z C.w ∧ RV P C z Z := by
  unfold max2Q at h
  split at h
  · cases hx; cases hy; cases h; exact ⟨_, by simp [Builtin.max2], .val⟩
  · cases h

theorem pickQ_sound {c a b p : PV} {Cv A B : Value} (hc : RV P C c Cv) (ha : RV P C a A) (hb : RV P C b B) (h : pickQ c a b = some p) : ∃ t, Cv = .bool t ∧ RV P C p (if t then A else B) := by
  unfold pickQ at h
  split at h
  · rename_i t
    cases hc
    refine ⟨t, rfl, ?_⟩
    split at h
    · cases ha; cases hb; cases h; cases t <;> exact .val
    · split at h
      · cases h; simpa using ha
      · cases h; simpa using hb
  · cases h

theorem okNil_sound {H : List Row} (hS : Sub H C) {p : PV} {V : Value} (hv : RV P C p V) (h : okNil H p = true) :
    V ≠ .pointer none ∧ V ≠ .nilIface ∧ V ≠ .nilFunc ∧ (∀ n a b, V ≠ .func (.method n) a b) := by
  unfold okNil at h
  split at h
  · cases hv; simp
  · cases hv; simp
  · cases hv with | sl hV => obtain ⟨a, c, rfl⟩ := hV; simp
  · cases hv; simp
  · obtain ⟨a, rfl, _⟩ := addOff_sound (d := 0) hS hv h; simp

/-- A list of operands. -/
theorem ops_list {f : Operand → PV} {g : Operand → Value} {xs : Array Operand} (h : ∀ x ∈ xs, RV P C (f x) (g x)) :
    (xs.map g).size = (xs.toList.map f).length ∧ ∀ (j : Nat) c v, (xs.toList.map f)[j]? = some c → (xs.map g)[j]? = some v → RV P C c v := by
  refine ⟨by simp, fun j c v h1 h2 => ?_⟩
  simp only [List.getElem?_map, Option.map_eq_some_iff] at h1
  simp only [Array.getElem?_map, Option.map_eq_some_iff] at h2
  obtain ⟨x, hx, rfl⟩ := h1
  obtain ⟨y, hy, rfl⟩ := h2
  rw [Array.getElem?_toList] at hx
  have : x = y := Option.some.inj (hx.symm.trans hy)
  subst this
  exact h x (Array.mem_of_getElem? hx)

theorem popQ_sound {H : List Row} {f : Operand → PV} {g : Operand → Value} {o : Oper} {p : PV} (hR : RH P C) (hS : Sub H C) (hv : ∀ x ∈ o.op.operands, RV P C (f x) (g x)) (h : popQ P H f o.op = some p) :
    ∃ v, (execOp g o).run P C.w = .ok (.value v) C.w ∧ RV P C p v := by
  obtain ⟨dst, op, type, pos, after, guard⟩ := o
  simp only at h hv
  cases op <;> simp only [popQ, reduceCtorEq, Option.some.injEq] at h <;> simp only [Op.operands] at hv
  case move x => subst h; exact ⟨_, by simp [execOp], hv x (by simp)⟩
  case assign x => subst h; exact ⟨_, by simp [execOp], hv x (by simp)⟩
  case pick c a b =>
    obtain ⟨t, h1, h2⟩ := pickQ_sound (hv c (by simp)) (hv a (by simp)) (hv b (by simp)) h
    refine ⟨_, ?_, h2⟩
    simp [execOp, h1, asBool]
  case build t parts =>
    obtain ⟨v, h1, h2⟩ := buildQ_sound (C := C) (vs := parts.toList.map fun x => (x.1, g x.2)) h (by simp) (fun j q v g1 g2 => by
      simp only [List.getElem?_map, Option.map_eq_some_iff] at g1 g2
      obtain ⟨x, hx, rfl⟩ := g1
      obtain ⟨y, hy, rfl⟩ := g2
      have : x = y := Option.some.inj (hx.symm.trans hy)
      subst this
      exact ⟨rfl, hv _ (by simp only [List.mem_toArray, List.mem_map]; exact ⟨x, List.mem_of_getElem? hx, rfl⟩)⟩)
    refine ⟨v, ?_, h2⟩
    have e : (parts.map fun (i, x) => (i, g x)) = (parts.toList.map fun x => (x.1, g x.2)).toArray := by apply Array.ext'; simp
    simp only [execOp, e, Sem.run_bind, h1, Result.andThen_ok, Sem.run_pure]
  case load t a =>
    obtain ⟨v, h1, h2⟩ := loadQ_sound hR hS (hv a (by simp)) h
    exact ⟨v, by simp [execOp, h1], h2⟩
  case nilCheck x =>
    split at h
    · rename_i hn
      cases h
      obtain ⟨h1, h2, h3, h4⟩ := okNil_sound hS (hv x (by simp)) hn
      refine ⟨g x, ?_, hv x (by simp)⟩
      simp only [execOp]
      rfl
    · cases h
  case binOp op t x y yt =>
    obtain ⟨v, h1, rfl⟩ := binV_sound (hv x (by simp)) (hv y (by simp)) h C.w
    exact ⟨v, by simp only [execOp, Sem.run_bind] at h1 ⊢; rw [h1]; rfl, .val⟩
  case unOp op t x =>
    obtain ⟨v, h1, rfl⟩ := unV_sound (hv x (by simp)) h C.w
    exact ⟨v, by simp [execOp, h1], .val⟩
  case convert s d x =>
    obtain ⟨v, h1, rfl⟩ := convV_sound (hv x (by simp)) h C.w
    exact ⟨v, by simp [execOp, h1], .val⟩
  case makeInterface t x =>
    split at h
    · cases h
    · cases h
    · rename_i d hu hd
      cases h
      refine ⟨_, ?_, .ifc (hv x (by simp))⟩
      simp only [execOp, Instr.makeInterface, Sem.run_bind, run_underlying hd, Result.andThen_ok]
      cases d <;> first | rfl | exact absurd hd (hu _)
  case makeFunc fn a b =>
    subst h
    have h1 := ops_list (P := P) (C := C) (f := f) (g := g) (xs := a) (fun x hx => hv x (by simp [hx]))
    have h2 := ops_list (P := P) (C := C) (f := f) (g := g) (xs := b) (fun x hx => hv x (by simp [hx]))
    exact ⟨_, by simp [execOp, Instr.makeFunc], .fn h1.1 h2.1 h1.2 h2.2⟩
  case slice t x lo hi mx =>
    have hna : ∀ n e, P.underlying t ≠ some (.array n e) := fun n e hu => by simp [hu] at h
    have h' : sliceQ P H t (f x) (lo.map f) (hi.map f) (mx.map f) = some p := by
      revert h
      split
      · rename_i hu; exact absurd hu (hna _ _)
      · exact id
    have bd : ∀ (o : Option Operand), (∀ y ∈ o, RV P C (f y) (g y)) → ∀ r, natIx (o.map f) = some r → Bd (o.map g) r := fun o ho r hr =>
      natIx_sound (P := P) (C := C) hr (by cases o <;> rfl) (fun p v g1 g2 => by cases o with | none => cases g1 | some y => cases g1; cases g2; exact ho y rfl)
    obtain ⟨v, h1, h2⟩ := sliceQ_sound hS (hv x (by simp)) (bd lo (fun y hy => hv y (by cases hy; simp))) (bd hi (fun y hy => hv y (by cases hy; simp))) (bd mx (fun y hy => hv y (by cases hy; simp))) h'
    refine ⟨v, ?_, h2⟩
    have hu : ∃ d, P.underlying t = some d := by
      cases hd : P.underlying t with
      | some d => exact ⟨d, rfl⟩
      | none => simp [sliceQ, hd] at h'
    obtain ⟨d, hd⟩ := hu
    simp only [execOp, Instr.sliceAt, Sem.run_bind, run_underlying hd, Result.andThen_ok]
    cases d <;> first | exact absurd hd (hna _ _) | simp [h1]
  case fieldAddr t x i =>
    obtain ⟨v, h1, h2⟩ := fieldAddrQ_sound hS (hv x (by simp)) h
    exact ⟨v, by simp [execOp, h1], h2⟩
  case field t x i =>
    obtain ⟨v, h1, h2⟩ := fieldQ_sound (hv x (by simp)) h
    exact ⟨v, by simp [execOp, h1], h2⟩
  case indexAddr t x ix =>
    obtain ⟨v, h1, h2⟩ := indexAddrQ_sound hS (hv x (by simp)) (hv ix (by simp)) h
    exact ⟨v, by simp [execOp, h1], h2⟩
  case index t x ix =>
    obtain ⟨v, h1, h2⟩ := indexQ_sound (hv x (by simp)) (hv ix (by simp)) h
    exact ⟨v, by simp [execOp, h1], h2⟩
  case extract t i =>
    obtain ⟨v, h1, h2⟩ := extractQ_sound (hv t (by simp)) h
    exact ⟨v, by simp [execOp, h1], h2⟩
  case call c =>
    obtain ⟨callee, args, argTypes⟩ := c
    simp only [callQ] at h
    simp only [Call.operands] at hv
    split at h
    · split at h
      · rename_i _ x T hx hT
        have hargs : args = #[x] := by apply Array.ext'; simpa using hx
        subst hargs
        obtain ⟨v, h1, h2⟩ := lenQ_sound (hv x (by simp)) h argTypes hT type
        exact ⟨v, by simp [execOp, resolve, invoke, builtin, h1], h2⟩
      · cases h
    · split at h
      · rename_i _ x xs hx
        have hargs : args = (x :: xs).toArray := by apply Array.ext'; simpa using hx
        subst hargs
        obtain ⟨Z, h1, h2⟩ := foldQ_sound (Xs := xs.map g) min2Q_sound (hv x (by simp)) (by simp) (fun j p v g1 g2 => by
          simp only [List.getElem?_map, Option.map_eq_some_iff] at g1 g2
          obtain ⟨a, ha, rfl⟩ := g1
          obtain ⟨b, hb, rfl⟩ := g2
          have : a = b := Option.some.inj (ha.symm.trans hb)
          subst this
          exact hv _ (by simp; exact .inr (List.mem_of_getElem? ha))) h
        exact ⟨Z, by simp [execOp, resolve, invoke, builtin, Builtin.min_, h1], h2⟩
      · cases h
    · split at h
      · rename_i _ x xs hx
        have hargs : args = (x :: xs).toArray := by apply Array.ext'; simpa using hx
        subst hargs
        obtain ⟨Z, h1, h2⟩ := foldQ_sound (Xs := xs.map g) max2Q_sound (hv x (by simp)) (by simp) (fun j p v g1 g2 => by
          simp only [List.getElem?_map, Option.map_eq_some_iff] at g1 g2
          obtain ⟨a, ha, rfl⟩ := g1
          obtain ⟨b, hb, rfl⟩ := g2
          have : a = b := Option.some.inj (ha.symm.trans hb)
          subst this
          exact hv _ (by simp; exact .inr (List.mem_of_getElem? ha))) h
        exact ⟨Z, by simp [execOp, resolve, invoke, builtin, Builtin.max_, h1], h2⟩
      · cases h
    · cases h
end
end Go.Hx
