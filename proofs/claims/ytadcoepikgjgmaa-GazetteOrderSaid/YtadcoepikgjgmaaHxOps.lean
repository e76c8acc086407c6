/- Hx: all operations that change nothing, in one function. -/
import Derived.Test.YtadcoepikgjgmaaHxQuiet
namespace Go.Hx

def lenQ (P : Program) (T : TypeId) (x : PV) : Option PV :=
  match P.underlying T, x with
  | some .string, .val (.string s) => some (.val (.int .i64 s.size))
  | some (.array n _), _ => some (.val (.int .i64 n))
  | some (.slice _), .sl _ _ _ len => some (.val (.int .i64 len))
  | some (.slice _), .lst _ _ es => some (.val (.int .i64 es.length))
  | some (.slice _), .val (.slice _ n _) => some (.val (.int .i64 n))
  | _, _ => none
def min2Q : PV → PV → Option PV
  | .val (.int k x), .val (.int _ y) => some (.val (.int k (if y < x then y else x)))
  | _, _ => none
def max2Q : PV → PV → Option PV
  | .val (.int k x), .val (.int _ y) => some (.val (.int k (if y > x then y else x)))
  | _, _ => none
def foldQ (f : PV → PV → Option PV) : PV → List PV → Option PV
  | x, [] => some x
  | x, y :: ys => match f x y with | some z => foldQ f z ys | none => none

def pickQ (c a b : PV) : Option PV :=
  match c with
  | .val (.bool t) =>
    match a, b with
    | .val (.bool x), .val (.bool y) => some (.val (.bool (bif t then x else y)))
    | a, b => match t with | true => some a | false => some b
  | _ => none

def okNil (H : List Row) : PV → Bool
  | .fn (.func _) _ _ => true
  | .ifc _ _ => true
  | .sl _ _ _ _ => true
  | .lst _ _ _ => true
  | p => okPtr H p

/-- Functions without a body that only reckon. -/
def extQ (name : String) (args : List PV) : Option PV :=
  if name = "math.sqrt" then
    match args with
    | [.val (.float .f64 x)] => (FloatKind.f64.format.sqrt x).map fun r => .val (.float .f64 r)
    | _ => none
  else if name = "internal/bytealg.IndexByteString" then
    match args with
    | [.val (.string s), .val (.int .u8 b)] => some (.val (.int .i64 (match (List.range s.size).find? fun i => s[i]! == b.toNat.toUInt8 with | some i => (i : Int) | none => -1)))
    | _ => none
  else if name = "internal/bytealg.abigen_runtime_cmpstring" then
    match args with
    | [.val (.string s), .val (.string t)] => some (.val (.int .i64 (Extern.BytealgCompare.cmp s t)))
    | _ => none
  else none
def externQ (P : Program) (k : FuncId) (args : List PV) : Option PV :=
  match P.funcs[k]? with
  | some fn =>
    match fn.body with
    | some _ => none
    | none => if fn.name == "runtime.NumGoroutine" then none else if (Extern.findNext fn).isSome then none else extQ fn.name args
  | none => none
def callQ (P : Program) (f : Operand → PV) (c : Call) : Option PV :=
  match c.callee with
  | .value g => match f g with | .fn (.func k) [] [] => externQ P k (c.args.toList.map f) | _ => none
  | .builtin .len => match c.args.toList, c.argTypes[0]? with | [x], some T => lenQ P T (f x) | _, _ => none
  | .builtin .min => match c.args.toList with | x :: xs => foldQ min2Q (f x) (xs.map f) | [] => none
  | .builtin .max => match c.args.toList with | x :: xs => foldQ max2Q (f x) (xs.map f) | [] => none
  | _ => none

/-- A comparison; a slice of one's own with nil. -/
def binH (P : Program) (H : List Row) (op : BinOp) (T : TypeId) (x0 y0 : Operand) (x y : PV) : Option PV :=
  match x, y with
  | .sl i n _ _, .val (.slice none 0 0) =>
    match rowAt H i, P.underlying T, op with
    | some r, some (.slice _), .eql => if r.es.length = n then some (.val (.bool r.nl)) else none
    | some r, some (.slice _), .neq => if r.es.length = n then some (.val (.bool !r.nl)) else none
    | _, _, _ => none
  | x, y => binV P op T x0 y0 x y
/-- The string of bytes. -/
def strB (es : List PV) : ByteArray := strOfNums (es.map fun p => (p.cellAt 0).getI)
def byteK (P : Program) (e : TypeId) : Bool := (match P.underlying e with | some (.int .u8) => true | _ => false) && P.cellsOf e == 1 && (match kinds P e with | [.int .u8] => true | _ => false)
def convH (P : Program) (H : List Row) (src dst : TypeId) (x : PV) : Option PV :=
  match x with
  | .sl i n k len =>
    match rowAt H i, P.underlying src, P.underlying dst with
    | some r, some (.slice e), some .string => if byteK P e && r.t == e && (r.es.length == n) && r.bv then some (.val (.string (strB ((r.es.drop k).take len)))) else none
    | _, _, _ => none
  | .lst _ t es =>
    match P.underlying src, P.underlying dst with
    | some (.slice e), some .string => if byteK P e && t == e then some (.val (.string (strB es))) else none
    | _, _ => none
  | .val (.slice none 0 0) =>
    match P.underlying src, P.underlying dst with
    | some (.slice e), some .string => if byteK P e then some (.val (.string .empty)) else none
    | _, _ => none
  | x => convV P src dst x
def popQ (P : Program) (H : List Row) (f : Operand → PV) : Op → Option PV
  | .move x | .assign x => some (f x)
  | .pick c a b => pickQ (f c) (f a) (f b)
  | .build t parts => buildQ P t (parts.toList.map fun x => (x.1, f x.2))
  | .load t a => loadQ P H t (f a)
  | .nilCheck x => if okNil H (f x) then some (f x) else none
  | .binOp op t x y _ => binH P H op t x y (f x) (f y)
  | .unOp op _ x => unV op (f x)
  | .convert s d x => convH P H s d (f x)
  | .makeInterface t x => match P.underlying t with | some (.interface _) | none => none | some _ => some (.ifc t (f x))
  | .makeFunc fn a b => some (.fn fn (a.toList.map f) (b.toList.map f))
  | .slice t x lo hi mx => match P.underlying t with | some (.array _ _) => none | _ => sliceQ P H t (f x) (lo.map f) (hi.map f) (mx.map f)
  | .fieldAddr t x i => fieldAddrQ P H t i (f x)
  | .field t x i => fieldQ P t i (f x)
  | .indexAddr t x ix => indexAddrQ P H t (f x) (f ix)
  | .index t x ix => indexQ P t (f x) (f ix)
  | .extract t i => extractQ i (f t)
  | .call c => callQ P f c
  | _ => none

section
variable {P : Program} {C : Ctx}
theorem lenQ_sound {T : TypeId} {x p : PV} {X : Value} (hx : RV P C x X) (h : lenQ P T x = some p) (ts : Array TypeId) (ht : ts[0]? = some T) (ty : TypeId) :
    ∃ v, (Builtin.len_ ts ty #[X]).run P C.w = .ok v C.w ∧ RV P C p v := by
  unfold lenQ at h
  split at h
  · rename_i hu; cases hx; cases h; exact ⟨_, by simp [Builtin.len_, ht, run_underlying hu, goInt], .val⟩
  · rename_i hu; cases h; exact ⟨_, by simp [Builtin.len_, ht, run_underlying hu, goInt], .val⟩
  · rename_i hu; cases h
    cases hx with
    | sl hV => obtain ⟨a, c, rfl⟩ := hV; exact ⟨_, by simp [Builtin.len_, ht, run_underlying hu, goInt], .val⟩
  · rename_i hu; cases h
    cases hx with
    | lst => exact ⟨_, by simp [Builtin.len_, ht, run_underlying hu, goInt], .val⟩
  · rename_i hu; cases hx; cases h; exact ⟨_, by simp [Builtin.len_, ht, run_underlying hu, goInt], .val⟩
  · cases h

theorem foldQ_sound {f : PV → PV → Option PV} {g : Value → Value → Sem Value} (hf : ∀ {x y z : PV} {X Y : Value}, RV P C x X → RV P C y Y → f x y = some z → ∃ Z, (g X Y).run P C.w = .ok Z C.w ∧ RV P C z Z) :
    ∀ {xs : List PV} {x z : PV} {X : Value} {Xs : List Value}, RV P C x X → xs.length = Xs.length → (∀ (j : Nat) p v, xs[j]? = some p → Xs[j]? = some v → RV P C p v) → foldQ f x xs = some z →
      ∃ Z, (Xs.foldlM g X).run P C.w = .ok Z C.w ∧ RV P C z Z
  | [], x, z, X, [], hx, _, _, h => by simp only [foldQ, Option.some.injEq] at h; subst h; exact ⟨X, by simp, hx⟩
  | [], _, _, _, _ :: _, _, hl, _, _ => by simp at hl
  | _ :: _, _, _, _, [], _, hl, _, _ => by simp at hl
  | y :: ys, x, z, X, Y :: Ys, hx, hl, hall, h => by
    simp only [foldQ] at h
    split at h
    · rename_i q hq
      obtain ⟨Z, h1, h2⟩ := hf hx (hall 0 y Y rfl rfl) hq
      obtain ⟨Z', h3, h4⟩ := foldQ_sound hf h2 (by simpa using hl) (fun j p v g1 g2 => hall (j + 1) p v g1 g2) h
      exact ⟨Z', by simp [List.foldlM_cons, h1, h3], h4⟩
    · cases h

theorem min2Q_sound {x y z : PV} {X Y : Value} (hx : RV P C x X) (hy : RV P C y Y) (h : min2Q x y = some z) : ∃ Z, (Builtin.min2 X Y).run P C.w = .ok Z C.w ∧ RV P C z Z := by
  unfold min2Q at h
  split at h
  · cases hx; cases hy; cases h; exact ⟨_, by simp [Builtin.min2], .val⟩
  · cases h
theorem max2Q_sound {x y z : PV} {X Y : Value} (hx : RV P C x X) (hy : RV P C y Y) (h : max2Q x y = some z) : ∃ Z, (Builtin.max2 X Y).run P C.w = .ok Z C.w ∧ RV P C z Z := by
  unfold max2Q at h
  split at h
  · cases hx; cases hy; cases h; exact ⟨_, by simp [Builtin.max2], .val⟩
  · cases h

theorem pickQ_sound {c a b p : PV} {Cv A B : Value} (hc : RV P C c Cv) (ha : RV P C a A) (hb : RV P C b B) (h : pickQ c a b = some p) : ∃ t, Cv = .bool t ∧ RV P C p (if t then A else B) := by
  unfold pickQ at h
  split at h
  · rename_i t
    cases hc
    refine ⟨t, rfl, ?_⟩
    split at h
    · cases ha; cases hb; cases h; cases t <;> exact .val
    · split at h
      · cases h; simpa using ha
      · cases h; simpa using hb
  · cases h

theorem okNil_sound {H : List Row} (hS : Sub H C) {p : PV} {V : Value} (hv : RV P C p V) (h : okNil H p = true) :
    V ≠ .pointer none ∧ V ≠ .nilIface ∧ V ≠ .nilFunc ∧ (∀ n a b, V ≠ .func (.method n) a b) := by
  unfold okNil at h
  split at h
  · cases hv; simp
  · cases hv; simp
  · cases hv with | sl hV => obtain ⟨a, c, rfl⟩ := hV; simp
  · cases hv; simp
  · obtain ⟨a, rfl, _⟩ := addOff_sound (d := 0) hS hv h; simp

/-- A list of operands. -/
theorem ops_list {f : Operand → PV} {g : Operand → Value} {xs : Array Operand} (h : ∀ x ∈ xs, RV P C (f x) (g x)) :
    (xs.map g).size = (xs.toList.map f).length ∧ ∀ (j : Nat) c v, (xs.toList.map f)[j]? = some c → (xs.map g)[j]? = some v → RV P C c v := by
  refine ⟨by simp, fun j c v h1 h2 => ?_⟩
  simp only [List.getElem?_map, Option.map_eq_some_iff] at h1
  simp only [Array.getElem?_map, Option.map_eq_some_iff] at h2
  obtain ⟨x, hx, rfl⟩ := h1
  obtain ⟨y, hy, rfl⟩ := h2
  rw [Array.getElem?_toList] at hx
  have : x = y := Option.some.inj (hx.symm.trans hy)
  subst this
  exact h x (Array.mem_of_getElem? hx)

theorem extQ_sound {P : Program} {C : Ctx} {fn : Func} {args : List PV} {Vs : Array Value} {p : PV} (hv : Cs P C args Vs) (h : extQ fn.name args = some p) :
    ∃ e v, Extern.find fn = some e ∧ (∀ w, (e Vs).run P w = .ok v w) ∧ p = .val v := by
  unfold extQ at h
  split at h
  · rename_i hn
    split at h
    · rename_i x
      have hf : Extern.find fn = some Extern.MathSqrt.sqrt := by
        unfold Extern.find
        simp only [hn]
        rw [show Extern.allGenericRows.lookup "math.sqrt" = none from Option.isNone_iff_eq_none.1 (by kernel_rfl), show Extern.allTypedRows.lookup "math.sqrt" = none from Option.isNone_iff_eq_none.1 (by kernel_rfl),
          show Extern.allRows.lookup "math.sqrt" = some Extern.MathSqrt.sqrt by kernel_rfl]
        rfl
      obtain ⟨r, hr, rfl⟩ := Option.map_eq_some_iff.1 h
      obtain ⟨V, rfl⟩ : ∃ V, Vs = #[V] := by match Vs, hv.1 with | ⟨[V]⟩, _ => exact ⟨V, rfl⟩
      cases hv.2 0 _ _ rfl rfl
      refine ⟨_, .float .f64 r, hf, fun w => ?_, rfl⟩
      have e : Extern.MathSqrt.sqrt #[.float .f64 x] = (match FloatKind.f64.format.sqrt x with | some r => pure (.float .f64 r) | none => do pure (.float .f64 (← choose (.nanBits .f64 x x)))) := rfl
      rw [e, hr]; rfl
    · cases h
  · split at h
    · rename_i hn
      split at h
      · rename_i s b
        have hf : Extern.find fn = some Extern.BytealgIndexByte.indexByte := by
          unfold Extern.find
          simp only [hn]
          rw [show Extern.allGenericRows.lookup "internal/bytealg.IndexByteString" = none from Option.isNone_iff_eq_none.1 (by kernel_rfl), show Extern.allTypedRows.lookup "internal/bytealg.IndexByteString" = none from Option.isNone_iff_eq_none.1 (by kernel_rfl),
            show Extern.allRows.lookup "internal/bytealg.IndexByteString" = some Extern.BytealgIndexByte.indexByte by kernel_rfl]
          rfl
        cases h
        obtain ⟨V, U, rfl⟩ : ∃ V U, Vs = #[V, U] := by match Vs, hv.1 with | ⟨[V, U]⟩, _ => exact ⟨V, U, rfl⟩
        cases hv.2 0 _ _ rfl rfl
        cases hv.2 1 _ _ rfl rfl
        refine ⟨_, _, hf, fun w => ?_, rfl⟩
        have e : Extern.BytealgIndexByte.indexByte #[.string s, .int .u8 b] = (do
            let b' ← Extern.Bytes.bytesOf (.string s)
            let c ← Extern.Bytes.asByte (.int .u8 b)
            match (List.range b'.size).find? fun i => b'[i]! == c with
            | some i => pure (goInt i)
            | none => pure (goInt (-1))) := rfl
        rw [e]
        simp only [Extern.Bytes.bytesOf, Extern.Bytes.asByte, Sem.run_bind, Sem.run_pure, Result.andThen_ok]
        cases (List.range s.size).find? fun i => s[i]! == b.toNat.toUInt8 <;> rfl
      · cases h
    · split at h
      · rename_i hn
        split at h
        · rename_i s u
          have hf : Extern.find fn = some Extern.BytealgCompare.compare := by
            unfold Extern.find
            simp only [hn]
            rw [show Extern.allGenericRows.lookup "internal/bytealg.abigen_runtime_cmpstring" = none from Option.isNone_iff_eq_none.1 (by kernel_rfl), show Extern.allTypedRows.lookup "internal/bytealg.abigen_runtime_cmpstring" = none from Option.isNone_iff_eq_none.1 (by kernel_rfl),
              show Extern.allRows.lookup "internal/bytealg.abigen_runtime_cmpstring" = some Extern.BytealgCompare.compare by kernel_rfl]
            rfl
          cases h
          obtain ⟨V, U, rfl⟩ : ∃ V U, Vs = #[V, U] := by match Vs, hv.1 with | ⟨[V, U]⟩, _ => exact ⟨V, U, rfl⟩
          cases hv.2 0 _ _ rfl rfl
          cases hv.2 1 _ _ rfl rfl
          refine ⟨_, _, hf, fun w => ?_, rfl⟩
          have e : Extern.BytealgCompare.compare #[.string s, .string u] = (do pure (goInt (Extern.BytealgCompare.cmp (← Extern.Bytes.bytesOf (.string s)) (← Extern.Bytes.bytesOf (.string u))))) := rfl
          rw [e]
          simp only [Extern.Bytes.bytesOf, Sem.run_bind, Sem.run_pure, Result.andThen_ok]
          rfl
        · cases h
      · cases h
theorem run_mark' {P : Program} (m : Mark) (w : World) : (mark m).run P w = .ok () w := rfl
theorem externQ_sound {P : Program} {C : Ctx} {k : FuncId} {args : List PV} {Vs : Array Value} {p : PV} (hv : Cs P C args Vs) (h : externQ P k args = some p) :
    ∃ v, (∀ w, (callFunc k Vs).run P w = .ok (.value v) w) ∧ p = .val v := by
  unfold externQ at h
  split at h
  · rename_i fn hfn
    split at h
    · cases h
    · rename_i hb
      split at h
      · cases h
      · rename_i hn
        split at h
        · cases h
        · rename_i hx
          obtain ⟨e, v, h1, h2, rfl⟩ := extQ_sound hv h
          refine ⟨v, fun w => ?_, rfl⟩
          have hx' : Extern.findNext fn = none := by simpa using hx
          simp only [callFunc, Sem.run_bind, Go.run_program, Result.andThen_ok, hfn, hb, hn, Bool.false_eq_true, if_false, Option.isNone_none, if_true, run_mark', hx', h1, h2, Sem.run_pure]
  · cases h
theorem binH_sound {H : List Row} (hS : Sub H C) {op : BinOp} {T : TypeId} {x0 y0 : Operand} {x y p : PV} {X Y : Value} (hx : RV P C x X) (hy : RV P C y Y) (h : binH P H op T x0 y0 x y = some p) :
    ∃ v, (do eqGuard op T x0 y0 X Y; binOp op T X Y : Sem Value).run P C.w = .ok v C.w ∧ p = .val v := by
  unfold binH at h
  split at h
  · rename_i i n k len
    cases hy
    cases hx with
    | sl hV hi hn hh =>
    have key : ∀ r, rowAt H i = some r → r.es.length = n → ∃ a l cap, X = .slice a l cap ∧ (a.isNone = r.nl) := by
      intro r h1 h2
      obtain ⟨_, a, cap, rfl, _, hs⟩ := hh r (hS _ _ h1) h2
      refine ⟨a, _, cap, rfl, ?_⟩
      unfold SlAt at hs
      split at hs
      · rename_i hnl; rw [hs.1, hnl]; rfl
      · rename_i hnl; obtain ⟨b, _, hb, _⟩ := hs; rw [hb]; simp at hnl; rw [hnl]; rfl
    split at h
    · rename_i r _ hr hu
      split at h
      · rename_i hl
        cases h
        obtain ⟨a, l, cap, rfl, e⟩ := key r hr hl
        rw [run_bin_other C.w (.inl (by simp)) (.inl (by simp))]
        cases a with
        | none => exact ⟨_, run_eql_of C.w rfl (fun d => by simp [Op.equalIn, run_underlying hu]; try rfl), by rw [← e]; rfl⟩
        | some a => exact ⟨_, run_eql_of C.w rfl (fun d => by simp [Op.equalIn, run_underlying hu]; try rfl), by rw [← e]; rfl⟩
      · cases h
    · rename_i r _ hr hu
      split at h
      · rename_i hl
        cases h
        obtain ⟨a, l, cap, rfl, e⟩ := key r hr hl
        rw [run_bin_other C.w (.inl (by simp)) (.inl (by simp))]
        cases a with
        | none => exact ⟨_, run_neq_of C.w rfl (fun d => by simp [Op.equalIn, run_underlying hu]; try rfl), by rw [← e]; rfl⟩
        | some a => exact ⟨_, run_neq_of C.w rfl (fun d => by simp [Op.equalIn, run_underlying hu]; try rfl), by rw [← e]; rfl⟩
      · cases h
    · cases h
  · exact binV_sound hx hy h C.w
theorem byteK_under {e : TypeId} (h : byteK P e = true) : P.underlying e = some (.int .u8) ∧ P.cellsOf e = 1 ∧ kinds P e = [.int .u8] := by
  unfold byteK at h
  simp only [Bool.and_eq_true, beq_iff_eq] at h
  obtain ⟨⟨h1, h2⟩, h3⟩ := h
  refine ⟨?_, h2, ?_⟩
  · split at h1
    · assumption
    · cases h1
  · split at h3
    · assumption
    · cases h3
theorem byteK_cell {e : TypeId} (h : byteK P e = true) {p : PV} (hw : wt P e p = true) : p.cells[0]? = some (.val (.int .u8 (p.cellAt 0).getI)) := by
  obtain ⟨_, _, h3⟩ := byteK_under h
  unfold wt at hw
  rw [h3] at hw
  simp only [Bool.and_eq_true] at hw
  have hw1 := hw.1
  unfold PV.cellAt
  match hc : p.cells, hw1 with
  | [.val (.int .u8 n)], _ => rfl
/-- A string out of bytes in a block. -/
theorem str_bytes {src dst e : TypeId} (hb : byteK P e = true) (hs : P.underlying src = some (.slice e)) (hd : P.underlying dst = some .string) {b off : Nat} {len cap : Nat} {es : List PV} (hl : es.length = len)
    (hc : ∀ (x : Nat) p, es[x]? = some p → C.w.cell? ⟨b, off + x, none⟩ = some (.int .u8 (p.cellAt 0).getI)) : (convert src dst (.slice (some ⟨b, off, none⟩) len cap)).run P C.w = .ok (.string (strB es)) C.w := by
  refine run_convert_bytes_arg C.w src e hs (byteK_under hb).1 b off len cap (es.map fun p => (p.cellAt 0).getI) (by simpa using hl) (fun i hi => ?_) dst hd
  have hx : es[i]? = some (es[i]'(by omega)) := List.getElem?_eq_getElem _
  rw [hc i _ hx, List.getD_eq_getElem?_getD, List.getElem?_map, hx]; rfl
theorem convH_sound {H : List Row} (hR : RH P C) (hS : Sub H C) {src dst : TypeId} {x p : PV} {X : Value} (hx : RV P C x X) (h : convH P H src dst x = some p) : ∃ v, (convert src dst X).run P C.w = .ok v C.w ∧ p = .val v := by
  unfold convH at h
  split at h
  · rename_i i n k len
    split at h
    · rename_i r e hr hs hd
      split at h
      · rename_i hc
        simp only [Bool.and_eq_true, beq_iff_eq] at hc
        obtain ⟨⟨⟨hb, ht⟩, hn⟩, hbv⟩ := hc
        cases h
        cases hx with
        | sl hV hi hle hh =>
          obtain ⟨hk, a, cap, rfl, hlc, hsl⟩ := hh r (hS _ _ hr) hn
          refine ⟨_, ?_, rfl⟩
          have hlen : ((r.es.drop k).take len).length = len := by simp; omega
          unfold SlAt at hsl
          split at hsl
          · rename_i hnl
            obtain ⟨rfl, rfl⟩ := hsl
            obtain rfl : len = 0 := by omega
            rw [run_convert_bytes_nil C.w src e hs (byteK_under hb).1 0 0 dst hd]
            rfl
          · obtain ⟨b, hρ, rfl, c, ee, fr, hheap, hcs⟩ := hsl
            have hB := hR.blk i b r hρ (hS _ _ hr)
            obtain ⟨c', fr', cv, m1, m2, m3, m4⟩ := hB.mem
            have hsz : r.s = 1 := by rw [hB.sz, ht]; exact (byteK_under hb).2.1
            rw [hsz, Nat.mul_one]
            refine str_bytes hb hs hd hlen fun x p hp => ?_
            rw [List.getElem?_take] at hp
            split at hp
            · rw [List.getElem?_drop] at hp
              have hw := hB.typed hbv p (List.mem_of_getElem? hp)
              rw [ht] at hw
              obtain ⟨g1, g2⟩ := m4 (k + x) p 0 _ hp (byteK_cell hb hw)
              rw [hsz, Nat.mul_one, Nat.add_zero] at g1
              rw [cell_row m1, g1]
              generalize hcv : cv (k + x) 0 = v at g2
              cases g2; rfl
            · cases hp
      · cases h
    · cases h
  · rename_i full t es
    split at h
    · rename_i e hs hd
      split at h
      · rename_i hc
        simp only [Bool.and_eq_true, beq_iff_eq] at hc
        obtain ⟨hb, rfl⟩ := hc
        cases h
        cases hx with
        | lst b off cv hcap hfull ha hc hr ht =>
          refine ⟨_, ?_, rfl⟩
          by_cases h0 : 0 < es.length
          · obtain ⟨rfl, hban, hlt⟩ := ha h0
            refine str_bytes hb hs hd rfl fun x p hp => ?_
            have hw := ht p (List.mem_of_getElem? hp)
            have g1 := hc x p 0 _ hp (byteK_cell hb hw)
            have g2 := hr x p 0 _ hp (byteK_cell hb hw)
            rw [(byteK_under hb).2.1, Nat.mul_one, Nat.add_zero] at g1
            rw [g1]
            generalize hcv : cv x 0 = v at g2
            cases g2; rfl
          · have he : es = [] := List.eq_nil_of_length_eq_zero (by omega)
            subst he
            rename_i a cap
            cases a with
            | none => rw [run_convert_bytes_nil C.w src _ hs (byteK_under hb).1 _ _ dst hd]; rfl
            | some a =>
              obtain ⟨ab, ao, as⟩ := a
              rw [run_convert_bytes_string C.w src dst _ _ _ _ hs (byteK_under hb).1 hd, List.length_nil, run_bytesToString C.w _ 0 cap [] (by simp [loadCells, loadCellsFrom])]
              rfl
      · cases h
    · cases h
  · split at h
    · rename_i e hs hd
      split at h
      · rename_i hb
        cases h
        cases hx
        exact ⟨_, by rw [run_convert_bytes_nil C.w src _ hs (byteK_under hb).1 _ _ dst hd], rfl⟩
      · cases h
    · cases h
  · exact convV_sound hx h C.w
theorem popQ_sound {H : List Row} {f : Operand → PV} {g : Operand → Value} {o : Oper} {p : PV} (hR : RH P C) (hS : Sub H C) (hv : ∀ x ∈ o.op.operands, RV P C (f x) (g x)) (h : popQ P H f o.op = some p) :
    ∃ v, (execOp g o).run P C.w = .ok (.value v) C.w ∧ RV P C p v := by
  obtain ⟨dst, op, type, pos, after, guard⟩ := o
  simp only at h hv
  cases op <;> simp only [popQ, reduceCtorEq, Option.some.injEq] at h <;> simp only [Op.operands] at hv
  case move x => subst h; exact ⟨_, by simp [execOp], hv x (by simp)⟩
  case assign x => subst h; exact ⟨_, by simp [execOp], hv x (by simp)⟩
  case pick c a b =>
    obtain ⟨t, h1, h2⟩ := pickQ_sound (hv c (by simp)) (hv a (by simp)) (hv b (by simp)) h
    refine ⟨_, ?_, h2⟩
    simp [execOp, h1, asBool]
  case build t parts =>
    obtain ⟨v, h1, h2⟩ := buildQ_sound (C := C) (vs := parts.toList.map fun x => (x.1, g x.2)) h (by simp) (fun j q v g1 g2 => by
      simp only [List.getElem?_map, Option.map_eq_some_iff] at g1 g2
      obtain ⟨x, hx, rfl⟩ := g1
      obtain ⟨y, hy, rfl⟩ := g2
      have : x = y := Option.some.inj (hx.symm.trans hy)
      subst this
      exact ⟨rfl, hv _ (by simp only [List.mem_toArray, List.mem_map]; exact ⟨x, List.mem_of_getElem? hx, rfl⟩)⟩)
    refine ⟨v, ?_, h2⟩
    have e : (parts.map fun (i, x) => (i, g x)) = (parts.toList.map fun x => (x.1, g x.2)).toArray := by apply Array.ext'; simp
    simp only [execOp, e, Sem.run_bind, h1, Result.andThen_ok, Sem.run_pure]
  case load t a =>
    obtain ⟨v, h1, h2⟩ := loadQ_sound hR hS (hv a (by simp)) h
    exact ⟨v, by simp [execOp, h1], h2⟩
  case nilCheck x =>
    split at h
    · rename_i hn
      cases h
      obtain ⟨h1, h2, h3, h4⟩ := okNil_sound hS (hv x (by simp)) hn
      refine ⟨g x, ?_, hv x (by simp)⟩
      simp only [execOp]
      rfl
    · cases h
  case binOp op t x y yt =>
    obtain ⟨v, h1, rfl⟩ := binH_sound hS (hv x (by simp)) (hv y (by simp)) h
    exact ⟨v, by simp only [execOp, Sem.run_bind] at h1 ⊢; rw [h1]; rfl, .val⟩
  case unOp op t x =>
    obtain ⟨v, h1, rfl⟩ := unV_sound (hv x (by simp)) h C.w
    exact ⟨v, by simp [execOp, h1], .val⟩
  case convert s d x =>
    obtain ⟨v, h1, rfl⟩ := convH_sound hR hS (hv x (by simp)) h
    exact ⟨v, by simp [execOp, h1], .val⟩
  case makeInterface t x =>
    split at h
    · cases h
    · cases h
    · rename_i d hu hd
      cases h
      refine ⟨_, ?_, .ifc (hv x (by simp))⟩
      simp only [execOp, Instr.makeInterface, Sem.run_bind, run_underlying hd, Result.andThen_ok]
      cases d <;> first | rfl | exact absurd hd (hu _)
  case makeFunc fn a b =>
    subst h
    have h1 := ops_list (P := P) (C := C) (f := f) (g := g) (xs := a) (fun x hx => hv x (by simp [hx]))
    have h2 := ops_list (P := P) (C := C) (f := f) (g := g) (xs := b) (fun x hx => hv x (by simp [hx]))
    exact ⟨_, by simp [execOp, Instr.makeFunc], .fn h1.1 h2.1 h1.2 h2.2⟩
  case slice t x lo hi mx =>
    have hna : ∀ n e, P.underlying t ≠ some (.array n e) := fun n e hu => by simp [hu] at h
    have h' : sliceQ P H t (f x) (lo.map f) (hi.map f) (mx.map f) = some p := by
      revert h
      split
      · rename_i hu; exact absurd hu (hna _ _)
      · exact id
    have bd : ∀ (o : Option Operand), (∀ y ∈ o, RV P C (f y) (g y)) → ∀ r, natIx (o.map f) = some r → Bd (o.map g) r := fun o ho r hr =>
      natIx_sound (P := P) (C := C) hr (by cases o <;> rfl) (fun p v g1 g2 => by cases o with | none => cases g1 | some y => cases g1; cases g2; exact ho y rfl)
    obtain ⟨v, h1, h2⟩ := sliceQ_sound hS (hv x (by simp)) (bd lo (fun y hy => hv y (by cases hy; simp))) (bd hi (fun y hy => hv y (by cases hy; simp))) (bd mx (fun y hy => hv y (by cases hy; simp))) h'
    refine ⟨v, ?_, h2⟩
    have hu : ∃ d, P.underlying t = some d := by
      cases hd : P.underlying t with
      | some d => exact ⟨d, rfl⟩
      | none => simp [sliceQ, hd] at h'
    obtain ⟨d, hd⟩ := hu
    simp only [execOp, Instr.sliceAt, Sem.run_bind, run_underlying hd, Result.andThen_ok]
    cases d <;> first | exact absurd hd (hna _ _) | simp [h1]
  case fieldAddr t x i =>
    obtain ⟨v, h1, h2⟩ := fieldAddrQ_sound hS (hv x (by simp)) h
    exact ⟨v, by simp [execOp, h1], h2⟩
  case field t x i =>
    obtain ⟨v, h1, h2⟩ := fieldQ_sound (hv x (by simp)) h
    exact ⟨v, by simp [execOp, h1], h2⟩
  case indexAddr t x ix =>
    obtain ⟨v, h1, h2⟩ := indexAddrQ_sound hS (hv x (by simp)) (hv ix (by simp)) h
    exact ⟨v, by simp [execOp, h1], h2⟩
  case index t x ix =>
    obtain ⟨v, h1, h2⟩ := indexQ_sound (hv x (by simp)) (hv ix (by simp)) h
    exact ⟨v, by simp [execOp, h1], h2⟩
  case extract t i =>
    obtain ⟨v, h1, h2⟩ := extractQ_sound (hv t (by simp)) h
    exact ⟨v, by simp [execOp, h1], h2⟩
  case call c =>
    obtain ⟨callee, args, argTypes⟩ := c
    simp only [callQ] at h
    simp only [Call.operands] at hv
    split at h
    · rename_i gg
      split at h
      · rename_i k hk
        have hF := hv gg (by simp)
        rw [hk] at hF
        generalize hG : g gg = G at hF
        cases hF with
        | @fn _ _ _ F K h1 h2 h3 h4 =>
        obtain rfl : F = #[] := by apply Array.eq_empty_of_size_eq_zero; simpa using h1
        obtain rfl : K = #[] := by apply Array.eq_empty_of_size_eq_zero; simpa using h2
        have hcs : Cs P C (args.toList.map f) (args.map g) := by
          refine ⟨by simp, fun j c v g1 g2 => ?_⟩
          simp only [List.getElem?_map, Option.map_eq_some_iff] at g1
          simp only [Array.getElem?_map, Option.map_eq_some_iff] at g2
          obtain ⟨a, ha, rfl⟩ := g1
          obtain ⟨b, hb, rfl⟩ := g2
          have : a = b := Option.some.inj ((by simpa using ha : args[j]? = some a).symm.trans hb)
          subst this
          exact hv _ (by simp; exact .inr (Array.mem_of_getElem? hb))
        obtain ⟨v, q1, rfl⟩ := externQ_sound hcs h
        refine ⟨v, ?_, .val⟩
        simp only [execOp, resolve, Deferred.ofValue, hG, Sem.run_bind, Sem.run_pure, Result.andThen_ok, invoke, Array.empty_append, Array.append_empty, q1]
      · cases h
    · split at h
      · rename_i _ x T hx hT
        have hargs : args = #[x] := by apply Array.ext'; simpa using hx
        subst hargs
        obtain ⟨v, h1, h2⟩ := lenQ_sound (hv x (by simp)) h argTypes hT type
        exact ⟨v, by simp [execOp, resolve, invoke, builtin, h1], h2⟩
      · cases h
    · split at h
      · rename_i _ x xs hx
        have hargs : args = (x :: xs).toArray := by apply Array.ext'; simpa using hx
        subst hargs
        obtain ⟨Z, h1, h2⟩ := foldQ_sound (Xs := xs.map g) min2Q_sound (hv x (by simp)) (by simp) (fun j p v g1 g2 => by
          simp only [List.getElem?_map, Option.map_eq_some_iff] at g1 g2
          obtain ⟨a, ha, rfl⟩ := g1
          obtain ⟨b, hb, rfl⟩ := g2
          have : a = b := Option.some.inj (ha.symm.trans hb)
          subst this
          exact hv _ (by simp; exact .inr (List.mem_of_getElem? ha))) h
        exact ⟨Z, by simp [execOp, resolve, invoke, builtin, Builtin.min_, h1], h2⟩
      · cases h
    · split at h
      · rename_i _ x xs hx
        have hargs : args = (x :: xs).toArray := by apply Array.ext'; simpa using hx
        subst hargs
        obtain ⟨Z, h1, h2⟩ := foldQ_sound (Xs := xs.map g) max2Q_sound (hv x (by simp)) (by simp) (fun j p v g1 g2 => by
          simp only [List.getElem?_map, Option.map_eq_some_iff] at g1 g2
          obtain ⟨a, ha, rfl⟩ := g1
          obtain ⟨b, hb, rfl⟩ := g2
          have : a = b := Option.some.inj (ha.symm.trans hb)
          subst this
          exact hv _ (by simp; exact .inr (List.mem_of_getElem? ha))) h
        exact ⟨Z, by simp [execOp, resolve, invoke, builtin, Builtin.max_, h1], h2⟩
      · cases h
    · cases h
end
end Go.Hx
