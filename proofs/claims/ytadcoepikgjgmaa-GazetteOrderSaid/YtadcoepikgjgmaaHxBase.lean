/- Hx: a pure machine beside the model. Values PV stand for values of the model in a world; rows stand for blocks that a call itself owns. This text: the values, what it means that a PV stands for a value, and that it stays so. -/
import Derived.WalkKit
import Derived.Orders
import Derived.StillTail
namespace Go.Hx

inductive PV where
  | val (v : Value)
  | ptr (i n k j : Nat)
  | lptr (t : TypeId) (e : PV) (j : Nat)
  | sl (i n k len : Nat)
  | lst (full : Bool) (t : TypeId) (es : List PV)
  | agg (cs : List PV)
  | tup (vs : List PV)
  | fn (f : Fn) (first cap : List PV)
  | ifc (t : TypeId) (v : PV)
  | yld (i : Nat)
  | any
  deriving Inhabited

def PV.getI : PV → Int | .val (.int _ n) => n | _ => 0
def PV.getB : PV → Bool | .val (.bool b) => b | _ => false
def PV.getS : PV → ByteArray | .val (.string s) => s | _ => .empty
def PV.getL : PV → List PV | .lst _ _ es => es | _ => []

/-- The cells of a value, as PVs. -/
def PV.cells : PV → List PV
  | .agg cs => cs
  | .val (.agg a) => a.toList.map .val
  | v => [v]
def PV.cellAt (e : PV) (j : Nat) : PV := e.cells.getD j .any

/-- The kinds of a type's cells. -/
inductive Kind where
  | int (k : IntKind) | bool | str | sl (t : TypeId) | other
  deriving DecidableEq

def kindsAt (P : Program) : Nat → TypeId → List Kind
  | 0, _ => [.other]
  | d + 1, t =>
    match P.underlying t with
    | some (.int k) => [.int k]
    | some .bool => [.bool]
    | some .string => [.str]
    | some (.slice e) => [.sl e]
    | some (.struct fs) => fs.toList.flatMap fun f => kindsAt P d f.type
    | some (.array n e) => (List.replicate n (kindsAt P d e)).flatten
    | _ => [.other]
def kinds (P : Program) (t : TypeId) : List Kind := kindsAt P 12 t

def wtc : Kind → PV → Bool
  | .int k, .val (.int k' _) => k == k'
  | .bool, .val (.bool _) => true
  | .str, .val (.string _) => true
  | .sl t, .lst _ t' _ => t == t'
  | _, _ => false
def wtcs : List Kind → List PV → Bool
  | [], [] => true
  | k :: ks, p :: ps => wtc k p && wtcs ks ps
  | _, _ => false
/-- A value is typed: its cells are those of its type, plain. -/
def wt (P : Program) (t : TypeId) (e : PV) : Bool := wtcs (kinds P t) e.cells && (kinds P t).length == P.cellsOf t

theorem wtcs_length : ∀ {ks : List Kind} {ps : List PV}, wtcs ks ps = true → ps.length = ks.length
  | [], [], _ => rfl
  | [], _ :: _, h => by simp [wtcs] at h
  | _ :: _, [], h => by simp [wtcs] at h
  | k :: ks, p :: ps, h => by
    simp only [wtcs, Bool.and_eq_true] at h
    simp [wtcs_length h.2]
theorem wtcs_get : ∀ {ks : List Kind} {ps : List PV}, wtcs ks ps = true → ∀ {j : Nat} {k p}, ks[j]? = some k → ps[j]? = some p → wtc k p = true
  | [], [], _, j, k, p, h, _ => by simp at h
  | [], _ :: _, h, _, _, _, _, _ => by simp [wtcs] at h
  | _ :: _, [], h, _, _, _, _, _ => by simp [wtcs] at h
  | k :: ks, p :: ps, h, j, k', p', h1, h2 => by
    simp only [wtcs, Bool.and_eq_true] at h
    cases j with
    | zero => simp at h1 h2; subst h1; subst h2; exact h.1
    | succ j => simp at h1 h2; exact wtcs_get h.2 h1 h2
theorem wt_length {P : Program} {t : TypeId} {e : PV} (h : wt P t e = true) : e.cells.length = P.cellsOf t := by
  simp only [wt, Bool.and_eq_true, beq_iff_eq] at h
  rw [wtcs_length h.1, h.2]

/-- The loop of a range over a function: the function that it stands in, the slots when it was entered, the slots of what is yielded, the rounds. -/
structure LoopK where
  f : FuncId
  S0 : List PV
  ps : Array Tmp
  asg : Code
  body : Code
/-- How it stands with the rounds: ready for the next; in one; left by a jump; over. -/
inductive LSt where
  | ready | busy | done (j : Code) | over
structure LoopI where
  k : LoopK
  st : LSt

structure Row where
  es : List PV
  s : Nat
  t : TypeId
  bv : Bool
  live : Bool := true
  nl : Bool := false
  lp : Option LoopI := none
  deriving Inhabited

structure Ctx where
  ρ : Nat → Option Nat
  H : List Row
  w : World
  fo : Nat → Prop := fun _ => False
  ro : Nat := 0

def rowAt (H : List Row) (i : Nat) : Option Row :=
  match H[i]? with
  | some r => if r.live then some r else none
  | none => none
def Ctx.row? (C : Ctx) (i : Nat) : Option Row := rowAt C.H i
/-- Blocks of rows; those that may be written (rows below 'ro' may not); those that a list must not lie in. -/
def Ctx.has (C : Ctx) (b : Nat) : Prop := ∃ i, C.ρ i = some b
def Ctx.own (C : Ctx) (b : Nat) : Prop := ∃ i, C.ro ≤ i ∧ C.ρ i = some b
def Ctx.ban (C : Ctx) (b : Nat) : Prop := C.has b ∨ C.fo b
theorem Ctx.own.has {C : Ctx} {b : Nat} (h : C.own b) : C.has b := let ⟨i, _, hi⟩ := h; ⟨i, hi⟩

theorem rowAt_lt {H : List Row} {i : Nat} {r : Row} (h : rowAt H i = some r) : i < H.length := by
  unfold rowAt at h
  cases hh : H[i]? with
  | none => simp [hh] at h
  | some x => exact (List.getElem?_eq_some_iff.1 hh).1

/-- Where a slice into row i begins in the world. -/
def SlAt (C : Ctx) (i : Nat) (r : Row) (k : Nat) (a : Option Addr) (cap : Nat) : Prop :=
  if r.nl then a = none ∧ cap = 0
  else ∃ b, C.ρ i = some b ∧ a = some ⟨b, k * r.s, none⟩ ∧ ∃ c e fr, C.w.heap[b]? = some (.cells c e fr) ∧ (k + cap) * r.s ≤ c.size

/-- A PV stands for a value. -/
inductive RV (P : Program) (C : Ctx) : PV → Value → Prop
  | any {V : Value} : RV P C .any V
  | val {v : Value} : RV P C (.val v) v
  | ptr {i n k j : Nat} {V : Value} (hV : ∃ a, V = .pointer a) (hk : k < n) (hi : i < C.H.length) (hn : ∀ r, C.row? i = some r → n ≤ r.es.length)
      (h : ∀ r, C.row? i = some r → r.es.length = n → ∃ b, C.ρ i = some b ∧ V = .pointer (some ⟨b, k * r.s + j, none⟩)) : RV P C (.ptr i n k j) V
  | lptr {t : TypeId} {e : PV} {j : Nat} {b off : Nat} (cv : Nat → Value) (hb : ¬ C.ban b) (hlt : b < C.w.heap.size)
      (hc : ∀ (x : Nat) p, e.cells[x]? = some p → C.w.cell? ⟨b, off + x, none⟩ = some (cv x))
      (hr : ∀ (x : Nat) p, e.cells[x]? = some p → RV P C p (cv x)) (ht : wt P t e = true) : RV P C (.lptr t e j) (.pointer (some ⟨b, off + j, none⟩))
  | sl {i n k len : Nat} {V : Value} (hV : ∃ a c, V = .slice a len c) (hi : i < C.H.length) (hn : ∀ r, C.row? i = some r → n ≤ r.es.length)
      (h : ∀ r, C.row? i = some r → r.es.length = n → k + len ≤ n ∧ ∃ a cap, V = .slice a len cap ∧ len ≤ cap ∧ SlAt C i r k a cap) : RV P C (.sl i n k len) V
  | lst {full : Bool} {t : TypeId} {es : List PV} {a : Option Addr} {cap : Nat} (b off : Nat) (cv : Nat → Nat → Value) (hcap : es.length ≤ cap) (hfull : full = true → cap = es.length)
      (ha : 0 < es.length → a = some ⟨b, off, none⟩ ∧ ¬ C.ban b ∧ b < C.w.heap.size)
      (hc : ∀ (x : Nat) e (j : Nat) p, es[x]? = some e → e.cells[j]? = some p → C.w.cell? ⟨b, off + x * P.cellsOf t + j, none⟩ = some (cv x j))
      (hr : ∀ (x : Nat) e (j : Nat) p, es[x]? = some e → e.cells[j]? = some p → RV P C p (cv x j))
      (ht : ∀ e, e ∈ es → wt P t e = true) : RV P C (.lst full t es) (.slice a es.length cap)
  | agg {cs : List PV} {a : Array Value} (hs : a.size = cs.length) (h : ∀ (j : Nat) c v, cs[j]? = some c → a[j]? = some v → RV P C c v) : RV P C (.agg cs) (.agg a)
  | tup {cs : List PV} {a : Array Value} (hs : a.size = cs.length) (h : ∀ (j : Nat) c v, cs[j]? = some c → a[j]? = some v → RV P C c v) : RV P C (.tup cs) (.tuple a)
  | fn {f : Fn} {first cap : List PV} {F K : Array Value} (h1 : F.size = first.length) (h2 : K.size = cap.length)
      (h3 : ∀ (j : Nat) c v, first[j]? = some c → F[j]? = some v → RV P C c v) (h4 : ∀ (j : Nat) c v, cap[j]? = some c → K[j]? = some v → RV P C c v) : RV P C (.fn f first cap) (.func f F K)
  | ifc {t : TypeId} {p : PV} {v : Value} (h : RV P C p v) : RV P C (.ifc t p) (.iface t v)
  | yld {i b : Nat} (hi : i < C.H.length) (hl : ∃ r info, C.H[i]? = some r ∧ r.lp = some info ∧ r.live = false) (hb : C.ρ i = some b) : RV P C (.yld i) (.func (.yield b) #[] #[])

/-- What a step may change: only the blocks that are the call's own. -/
structure Ext (C C' : Ctx) : Prop where
  os : C'.w.os = C.w.os
  tape : C'.w.tape = C.w.tape
  output : C'.w.output = C.w.output
  size : C.w.heap.size ≤ C'.w.heap.size
  block : ∀ b, b < C.w.heap.size → ¬ C.own b → C'.w.heap[b]? = C.w.heap[b]?
  shape : ∀ (b : Nat) c e fr, C.w.heap[b]? = some (.cells c e fr) → ∃ c', C'.w.heap[b]? = some (.cells c' e fr) ∧ c'.size = c.size
  len : C.H.length ≤ C'.H.length
  rows : ∀ i r', i < C.H.length → C'.row? i = some r' → ∃ r, C.row? i = some r ∧ r.s = r'.s ∧ r.t = r'.t ∧ r.es.length ≤ r'.es.length ∧ (r.es.length = r'.es.length → r.nl = r'.nl ∧ ∀ b, C.ρ i = some b → C'.ρ i = some b)
  fresh : ∀ b, C'.has b → C.has b ∨ C.w.heap.size ≤ b
  freshOwn : ∀ b, C'.own b → C.own b ∨ C.w.heap.size ≤ b
  fo : C'.fo = C.fo
  ro : C'.ro = C.ro
  low : ∀ i, i < C.ro → C'.H[i]? = C.H[i]? ∧ C'.ρ i = C.ρ i
  lp : ∀ (i : Nat) r info, C.H[i]? = some r → r.lp = some info → r.live = false → (∃ r' st, C'.H[i]? = some r' ∧ r'.lp = some ⟨info.k, st⟩ ∧ r'.live = false) ∧ ∀ b, C.ρ i = some b → C'.ρ i = some b
  loop : ∀ (b : Nat) rec, C.w.heap[b]? = some (.loop rec) → ∃ rec', C'.w.heap[b]? = some (.loop rec')

theorem Ext.refl (C : Ctx) : Ext C C :=
  ⟨rfl, rfl, rfl, Nat.le_refl _, fun _ _ _ => rfl, fun _ c _ _ h => ⟨c, h, rfl⟩, Nat.le_refl _, fun _ r' _ h => ⟨r', h, rfl, rfl, Nat.le_refl _, fun _ => ⟨rfl, fun _ h => h⟩⟩, fun _ h => .inl h, fun _ h => .inl h, rfl, rfl, fun _ _ => ⟨rfl, rfl⟩,
    fun _ r info h1 h2 h3 => ⟨⟨r, info.st, h1, h2, h3⟩, fun _ h => h⟩, fun _ rec h => ⟨rec, h⟩⟩

theorem Ext.trans {A B C : Ctx} (h : Ext A B) (k : Ext B C) : Ext A C where
  os := k.os.trans h.os
  tape := k.tape.trans h.tape
  output := k.output.trans h.output
  size := Nat.le_trans h.size k.size
  block b hb hn := by
    rw [k.block b (Nat.lt_of_lt_of_le hb h.size) (fun ho => (h.freshOwn b ho).elim hn (fun hle => by omega)), h.block b hb hn]
  shape b c e fr hh := by
    obtain ⟨c1, h1, s1⟩ := h.shape b c e fr hh
    obtain ⟨c2, h2, s2⟩ := k.shape b c1 e fr h1
    exact ⟨c2, h2, s2.trans s1⟩
  len := Nat.le_trans h.len k.len
  rows i r' hi hr := by
    obtain ⟨r1, a1, a2, a3, a4, a5⟩ := k.rows i r' (Nat.lt_of_lt_of_le hi h.len) hr
    obtain ⟨r0, b1, b2, b3, b4, b5⟩ := h.rows i r1 hi a1
    exact ⟨r0, b1, b2.trans a2, b3.trans a3, Nat.le_trans b4 a4, fun e => ⟨(b5 (by omega)).1.trans (a5 (by omega)).1, fun b hb => (a5 (by omega)).2 b ((b5 (by omega)).2 b hb)⟩⟩
  fresh b hb := by
    rcases k.fresh b hb with h1 | h1
    · exact h.fresh b h1
    · exact .inr (Nat.le_trans h.size h1)
  freshOwn b hb := by
    rcases k.freshOwn b hb with h1 | h1
    · exact h.freshOwn b h1
    · exact .inr (Nat.le_trans h.size h1)
  fo := k.fo.trans h.fo
  ro := k.ro.trans h.ro
  low i hi := ⟨((k.low i (by rw [h.ro]; exact hi)).1).trans (h.low i hi).1, ((k.low i (by rw [h.ro]; exact hi)).2).trans (h.low i hi).2⟩
  lp i r info h1 h2 h3 := by
    obtain ⟨⟨r1, st1, a1, a2, a3⟩, a4⟩ := h.lp i r info h1 h2 h3
    obtain ⟨⟨r2, st2, b1, b2, b3⟩, b4⟩ := k.lp i r1 _ a1 a2 a3
    exact ⟨⟨r2, st2, b1, b2, b3⟩, fun b hb => b4 b (a4 b hb)⟩
  loop b rec hh := by
    obtain ⟨rec1, h1⟩ := h.loop b rec hh
    exact k.loop b rec1 h1

theorem Ext.notOwn {C C' : Ctx} (h : Ext C C') {b : Nat} (hb : ¬ C.ban b) (hlt : b < C.w.heap.size) : ¬ C'.ban b :=
  fun ho => ho.elim (fun ho => (h.fresh b ho).elim (fun o => hb (.inl o)) (fun hle => by omega)) (fun hf => hb (.inr (by rw [← h.fo]; exact hf)))
theorem Ext.cell {C C' : Ctx} (h : Ext C C') {b : Nat} (hb : ¬ C.ban b) (hlt : b < C.w.heap.size) (x : Nat) : C'.w.cell? ⟨b, x, none⟩ = C.w.cell? ⟨b, x, none⟩ := by
  simp only [World.cell?, h.block b hlt (fun o => hb (.inl o.has))]

theorem SlAt.mono {C C' : Ctx} (h : Ext C C') {i k cap : Nat} {r r' : Row} {a : Option Addr} (hs : r.s = r'.s) (hρ : r.nl = r'.nl ∧ ∀ b, C.ρ i = some b → C'.ρ i = some b) (hh : SlAt C i r k a cap) : SlAt C' i r' k a cap := by
  unfold SlAt at *
  rw [← hρ.1, ← hs]
  split at hh
  · rename_i hn; rw [if_pos hn]; exact hh
  · rename_i hn
    rw [if_neg hn]
    obtain ⟨b, h0, h1, c, e, fr, h2, h3⟩ := hh
    obtain ⟨c', h4, h5⟩ := h.shape _ c e fr h2
    exact ⟨b, hρ.2 b h0, h1, c', e, fr, h4, by omega⟩

/-- What stands for a value goes on doing so. -/
theorem RV.mono {P : Program} {C C' : Ctx} (h : Ext C C') {p : PV} {V : Value} (hv : RV P C p V) : RV P C' p V := by
  induction hv with
  | any => exact .any
  | val => exact .val
  | ptr hV hk hi hn hh =>
    refine .ptr hV hk (Nat.lt_of_lt_of_le hi h.len) (fun r' hr' => ?_) fun r' hr' hl => ?_
    · obtain ⟨r, a1, a2, _, a4, a5⟩ := h.rows _ r' hi hr'
      exact Nat.le_trans (hn r a1) a4
    · obtain ⟨r, a1, a2, _, a4, a5⟩ := h.rows _ r' hi hr'
      have := hn r a1
      obtain ⟨b, hb, hV⟩ := hh r a1 (by omega)
      exact ⟨b, (a5 (by omega)).2 b hb, by rw [hV, a2]⟩
  | lptr cv hb hlt hc hr ht ih =>
    exact .lptr cv (h.notOwn hb hlt) (Nat.lt_of_lt_of_le hlt h.size) (fun x p hx => by rw [h.cell hb hlt]; exact hc x p hx) ih ht
  | sl hV hi hn hh =>
    refine .sl hV (Nat.lt_of_lt_of_le hi h.len) (fun r' hr' => ?_) fun r' hr' hl => ?_
    · obtain ⟨r, a1, a2, _, a4, a5⟩ := h.rows _ r' hi hr'
      exact Nat.le_trans (hn r a1) a4
    · obtain ⟨r, a1, a2, _, a4, a5⟩ := h.rows _ r' hi hr'
      have := hn r a1
      obtain ⟨hk, a, cap, hV, hc, hs⟩ := hh r a1 (by omega)
      exact ⟨hk, a, cap, hV, hc, hs.mono h a2 (a5 (by omega))⟩
  | lst b off cv hcap hfull ha hc hr ht ih =>
    refine .lst b off cv hcap hfull (fun h0 => ?_) (fun x e j p hx hj => ?_) ih ht
    · obtain ⟨h1, h2, h3⟩ := ha h0
      exact ⟨h1, h.notOwn h2 h3, Nat.lt_of_lt_of_le h3 h.size⟩
    · have hx' : x < _ := (List.getElem?_eq_some_iff.1 hx).1
      obtain ⟨h1, h2, h3⟩ := ha (by omega)
      rw [h.cell h2 h3]; exact hc x e j p hx hj
  | agg hs _ ih => exact .agg hs ih
  | tup hs _ ih => exact .tup hs ih
  | fn h1 h2 _ _ ih3 ih4 => exact .fn h1 h2 ih3 ih4
  | ifc _ ih => exact .ifc ih
  | yld hi hl hb =>
    obtain ⟨r, info, h1, h2, h3⟩ := hl
    obtain ⟨⟨r', st, a1, a2, a3⟩, a4⟩ := h.lp _ r info h1 h2 h3
    exact .yld (Nat.lt_of_lt_of_le hi h.len) ⟨r', _, a1, a2, a3⟩ (a4 _ hb)
/-- What a row says of its block. -/
structure RB (P : Program) (C : Ctx) (b : Nat) (r : Row) : Prop where
  sz : r.s = P.cellsOf r.t
  mem : ∃ (c : Array Value) (fr : Nat × Nat) (cv : Nat → Nat → Value), C.w.heap[b]? = some (.cells c r.t fr) ∧ (∀ off, off < c.size → (decide (fr.1 ≤ off) && decide (off < fr.2)) = false) ∧ r.es.length * r.s ≤ c.size ∧
    ∀ (k : Nat) e (j : Nat) p, r.es[k]? = some e → e.cells[j]? = some p → c[k * r.s + j]? = some (cv k j) ∧ RV P C p (cv k j)
  len : ∀ e, e ∈ r.es → e.cells.length = r.s
  typed : r.bv = true → ∀ e, e ∈ r.es → wt P r.t e = true

/-- The slots of a frame. -/
def RSl (P : Program) (C : Ctx) (S : List PV) (t : Array Value) : Prop :=
  t.size = S.length ∧ ∀ (i : Nat) p v, S[i]? = some p → t[i]? = some v → RV P C p v
theorem RSl.mono {P : Program} {C C' : Ctx} {S : List PV} {t : Array Value} (h : Ext C C') (hs : RSl P C S t) : RSl P C' S t :=
  ⟨hs.1, fun i p v h1 h2 => (hs.2 i p v h1 h2).mono h⟩

/-- Code within code. -/
inductive SubC (c : Code) : Code → Prop where
  | here : SubC c c
  | seq1 {a b : Code} (h : SubC c a) : SubC c (.seq a b)
  | seq2 {a b : Code} (h : SubC c b) : SubC c (.seq a b)
  | cond1 {x : Operand} {a b : Code} (h : SubC c a) : SubC c (.cond x a b)
  | cond2 {x : Operand} {a b : Code} (h : SubC c b) : SubC c (.cond x a b)
  | block {i : Nat} {a : Code} (h : SubC c a) : SubC c (.block i a)
  | loop {a : Code} (h : SubC c a) : SubC c (.loop a)
  | scope {a : Code} (h : SubC c a) : SubC c (.scope a)
  | range1 {g : Operand} {ps : Array Tmp} {a b : Code} (h : SubC c a) : SubC c (.rangeFunc g ps a b)
  | range2 {g : Operand} {ps : Array Tmp} {a b : Code} (h : SubC c b) : SubC c (.rangeFunc g ps a b)
theorem SubC.trans {a b c : Code} (h : SubC a b) (k : SubC b c) : SubC a c := by
  induction k with
  | here => exact h
  | seq1 _ ih => exact .seq1 ih
  | seq2 _ ih => exact .seq2 ih
  | cond1 _ ih => exact .cond1 ih
  | cond2 _ ih => exact .cond2 ih
  | block _ ih => exact .block ih
  | loop _ ih => exact .loop ih
  | scope _ ih => exact .scope ih
  | range1 _ ih => exact .range1 ih
  | range2 _ ih => exact .range2 ih
def SubCode (P : Program) (f : FuncId) (c : Code) : Prop := ∃ fn b, P.funcs[f]? = some fn ∧ fn.body = some b ∧ SubC c b

/-- A loop's record in the world. -/
structure LoopB (P : Program) (C : Ctx) (b : Nat) (info : LoopI) : Prop where
  mem : ∃ rec : Loop, C.w.heap[b]? = some (.loop rec) ∧ rec.params = info.k.ps ∧ rec.assign = info.k.asg ∧ rec.body = info.k.body ∧ RSl P C info.k.S0 rec.tmps ∧
    (match info.st with | .ready => rec.state = .ready ∧ rec.pending = none | .busy => rec.state = .busy | .done j => rec.state = .done ∧ rec.pending = some j | .over => True)
  asg : SubCode P info.k.f info.k.asg
  body : SubCode P info.k.f info.k.body
theorem LoopB.mono {P : Program} {C C' : Ctx} (h : Ext C C') {b : Nat} {info : LoopI} (hb : C'.w.heap[b]? = C.w.heap[b]?) (hr : LoopB P C b info) : LoopB P C' b info := by
  obtain ⟨⟨rec, h1, h2, h3, h4, h5, h6⟩, ha, hbd⟩ := hr
  exact ⟨⟨rec, by rw [hb, h1], h2, h3, h4, h5.mono h, h6⟩, ha, hbd⟩

/-- The rows and their blocks. -/
structure RH (P : Program) (C : Ctx) : Prop where
  inj : ∀ i j b, C.ρ i = some b → C.ρ j = some b → i = j
  dom : ∀ i b, C.ρ i = some b → (∃ r, C.row? i = some r) ∨ ∃ r info, C.H[i]? = some r ∧ r.lp = some info ∧ r.live = false
  blk : ∀ i b r, C.ρ i = some b → C.row? i = some r → RB P C b r
  ro : C.ro ≤ C.H.length
  nfo : ∀ i b, C.ρ i = some b → ¬ C.fo b
  fol : ∀ b, C.fo b → b < C.w.heap.size
  lps : ∀ (i b : Nat) r info, C.ρ i = some b → C.H[i]? = some r → r.lp = some info → r.live = false → LoopB P C b info

theorem LoopB.lt {P : Program} {C : Ctx} {b : Nat} {info : LoopI} (h : LoopB P C b info) : b < C.w.heap.size := by
  obtain ⟨rec, h1, _⟩ := h.mem
  exact (Array.getElem?_eq_some_iff.1 h1).1
theorem RB.lt {P : Program} {C : Ctx} {b : Nat} {r : Row} (h : RB P C b r) : b < C.w.heap.size := by
  obtain ⟨c, fr, cv, hh, _⟩ := h.mem
  exact (Array.getElem?_eq_some_iff.1 hh).1
theorem RH.lt {P : Program} {C : Ctx} (h : RH P C) {i b : Nat} (hi : C.ρ i = some b) : b < C.w.heap.size := by
  rcases h.dom i b hi with ⟨r, hr⟩ | ⟨r, info, h1, h2, h3⟩
  · exact (h.blk i b r hi hr).lt
  · exact (h.lps i b r info hi h1 h2 h3).lt

def ev (S : List PV) : Operand → PV
  | .tmp t => S.getD t (.val undef)
  | .const v => .val v
  | .global _ => .any
  | .func f => .fn (.func f) [] []

theorem RSl.ev {P : Program} {C : Ctx} {S : List PV} {a : Act} (h : RSl P C S a.tmps) (x : Operand) : RV P C (ev S x) (a.eval x) := by
  cases x with
  | tmp t =>
    show RV P C (S.getD t (.val undef)) (a.tmps.getD t undef)
    by_cases ht : t < S.length
    · have h1 : S[t]? = some S[t] := List.getElem?_eq_getElem ht
      have h2 : a.tmps[t]? = some (a.tmps[t]'(by rw [h.1]; exact ht)) := Array.getElem?_eq_getElem _
      have := h.2 t _ _ h1 h2
      simpa [List.getD, Array.getD, ht, h.1] using this
    · have h1 : S.getD t (.val undef) = .val undef := by simp [List.getD, List.getElem?_eq_none (Nat.le_of_not_lt ht)]
      have h2 : a.tmps.getD t undef = undef := by simp [Array.getD, h.1, ht]
      rw [h1, h2]; exact .val
  | const v => exact .val
  | global g => exact .any
  | func f => exact .fn rfl rfl (fun j c v h => by simp at h) (fun j c v h => by simp at h)

theorem RSl.put {P : Program} {C : Ctx} {S : List PV} {a : Act} (h : RSl P C S a.tmps) {d : Option Tmp} {p : PV} {v : Value} (hv : RV P C p v) :
    RSl P C (match d with | some d => S.set d p | none => S) (a.put d v).tmps := by
  cases d with
  | none => exact h
  | some d =>
    refine ⟨by simp [Act.put, h.1], fun i q u h1 h2 => ?_⟩
    simp only [Act.put] at h2
    by_cases hid : d = i
    · subst hid
      rw [List.getElem?_set] at h1
      rw [Array.getElem?_setIfInBounds] at h2
      simp only [if_true] at h1 h2
      split at h1
      · split at h2
        · cases h1; cases h2; exact hv
        · cases h2
      · cases h1
    · rw [List.getElem?_set, if_neg hid] at h1
      rw [Array.getElem?_setIfInBounds, if_neg hid] at h2
      exact h.2 i q u h1 h2

/-- A step that changes no row: only new rows from h on, m of them, may have got their blocks. -/
structure Grow (C C' : Ctx) (h m : Nat) : Prop where
  H : C'.H = C.H
  ext : Ext C C'
  ρ : ∀ i, (i < h ∨ h + m ≤ i) → C'.ρ i = C.ρ i

theorem Grow.refl (C : Ctx) (h m : Nat) : Grow C C h m := ⟨rfl, .refl C, fun _ _ => rfl⟩

/-- A new block for row number i. -/
def Ctx.bind (C : Ctx) (i : Nat) (o : Obj) : Ctx := { ρ := fun x => if x = i then some C.w.heap.size else C.ρ x, H := C.H, w := C.w.alloc o, fo := C.fo, ro := C.ro }

theorem Ctx.bind_ext {C : Ctx} {i : Nat} (hi : C.ρ i = none) (hro : C.ro ≤ i) (o : Obj) : Ext C (C.bind i o) where
  os := rfl
  tape := rfl
  output := rfl
  size := by simp [Ctx.bind]
  block b hb _ := Go.heap_alloc_old C.w o hb
  shape b c e fr h := ⟨c, by rw [← h]; exact Go.heap_alloc_old C.w o (Array.getElem?_eq_some_iff.1 h).1, rfl⟩
  len := Nat.le_refl _
  rows j r' _ hr := ⟨r', hr, rfl, rfl, Nat.le_refl _, fun _ => ⟨rfl, fun b hb => by
    have hji : j ≠ i := fun e => by rw [e, hi] at hb; cases hb
    simp [Ctx.bind, hji, hb]⟩⟩
  fresh b hb := by
    obtain ⟨j, hj⟩ := hb
    simp only [Ctx.bind] at hj
    split at hj
    · cases hj; exact .inr (Nat.le_refl _)
    · exact .inl ⟨j, hj⟩
  freshOwn b hb := by
    obtain ⟨j, hjr, hj⟩ := hb
    simp only [Ctx.bind] at hj hjr
    split at hj
    · cases hj; exact .inr (Nat.le_refl _)
    · exact .inl ⟨j, hjr, hj⟩
  fo := rfl
  ro := rfl
  low j hj := ⟨rfl, by simp only [Ctx.bind]; rw [if_neg (by omega)]⟩
  lp j r info h1 h2 h3 := ⟨⟨r, info.st, h1, h2, h3⟩, fun b hb => by
    have hji : j ≠ i := fun e => by rw [e, hi] at hb; cases hb
    simp [Ctx.bind, hji, hb]⟩
  loop b rec h := ⟨rec, by rw [← h]; exact Go.heap_alloc_old C.w o (Array.getElem?_eq_some_iff.1 h).1⟩

theorem RB.mono {P : Program} {C C' : Ctx} (h : Ext C C') {b : Nat} {r : Row} (hb : C'.w.heap[b]? = C.w.heap[b]?) (hr : RB P C b r) : RB P C' b r := by
  obtain ⟨c, fr, cv, h1, h2, h3, h4⟩ := hr.mem
  exact ⟨hr.sz, ⟨c, fr, cv, by rw [hb, h1], h2, h3, fun k e j p hk hj => ⟨(h4 k e j p hk hj).1, (h4 k e j p hk hj).2.mono h⟩⟩, hr.len, hr.typed⟩

/-- The new block is row i's: what the row says of it holds. -/
theorem Ctx.bind_rows {P : Program} {C : Ctx} (hR : RH P C) {i : Nat} (hi : C.ρ i = none) (hro : C.ro ≤ i) {r : Row} (hr : C.row? i = some r) (hsz : r.s = P.cellsOf r.t)
    {c : Array Value} {fr : Nat × Nat} (hfr : ∀ off, off < c.size → (decide (fr.1 ≤ off) && decide (off < fr.2)) = false) (hc : r.es.length * r.s ≤ c.size)
    (cv : Nat → Nat → Value) (hv : ∀ (k : Nat) e (j : Nat) p, r.es[k]? = some e → e.cells[j]? = some p → c[k * r.s + j]? = some (cv k j) ∧ RV P C p (cv k j))
    (hl : ∀ e, e ∈ r.es → e.cells.length = r.s) (ht : r.bv = true → ∀ e, e ∈ r.es → wt P r.t e = true) : RH P (C.bind i (.cells c r.t fr)) := by
  have hx := Ctx.bind_ext (C := C) hi hro (.cells c r.t fr)
  refine ⟨fun x y b hx hy => ?_, fun x b hx => ?_, fun x b r' h1 h2 => ?_, hR.ro, fun x b hx => ?_, fun b hb => Nat.lt_of_lt_of_le (hR.fol b hb) hx.size, fun x b r' info h1 h2 h3 h4 => ?_⟩
  · simp only [Ctx.bind] at hx hy
    split at hx <;> split at hy
    · omega
    · cases hx; have := hR.lt hy; omega
    · cases hy; have := hR.lt hx; omega
    · exact hR.inj x y b hx hy
  · simp only [Ctx.bind] at hx
    split at hx
    · rename_i e; subst e; exact .inl ⟨r, hr⟩
    · exact hR.dom x b hx
  · simp only [Ctx.bind] at h1
    split at h1
    · rename_i e
      subst e
      cases h1
      have e2 : r' = r := Option.some.inj ((show C.row? x = some r' from h2).symm.trans hr)
      subst e2
      exact ⟨hsz, ⟨c, fr, cv, heap_alloc_new C.w _, hfr, hc, fun k e j p hk hj => ⟨(hv k e j p hk hj).1, (hv k e j p hk hj).2.mono hx⟩⟩, hl, ht⟩
    · have hb := hR.blk x b r' h1 h2
      exact hb.mono hx (Go.heap_alloc_old C.w _ hb.lt)
  · simp only [Ctx.bind] at hx ⊢
    split at hx
    · cases hx; exact fun hf => Nat.lt_irrefl _ (hR.fol _ hf)
    · exact hR.nfo x b hx
  · simp only [Ctx.bind] at h1
    split at h1
    · rename_i e
      subst e
      have : C.row? x = none := by unfold Ctx.row? rowAt; rw [show C.H[x]? = some r' from h2]; simp [h4]
      rw [this] at hr; cases hr
    · have hb := hR.lps x b r' info h1 h2 h3 h4
      exact hb.mono hx (Go.heap_alloc_old C.w _ hb.lt)

end Go.Hx
