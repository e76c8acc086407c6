/- Hx: the machine in continuations: what is known only of a value stands as a 'bif' outermost. -/
import Derived.Test.YtadcoepikgjgmaaHxPivot
namespace Go.Hx

/-- A tree of conditions. -/
inductive DT (α : Type) where
  | leaf (a : α)
  | no
  | br (b : Bool) (x y : DT α)
def DT.run {α : Type} : DT α → Option α
  | .leaf a => some a
  | .no => none
  | .br b x y => bif b then x.run else y.run
def DT.go {α β : Type} (k : α → Option β) : DT α → Option β
  | .leaf a => k a
  | .no => none
  | .br b x y => bif b then x.go k else y.go k
theorem DT.go_some {α β : Type} {k : α → Option β} {r : β} : ∀ {d : DT α}, d.go k = some r → ∃ a, d.run = some a ∧ k a = some r
  | .leaf a, h => ⟨a, rfl, h⟩
  | .no, h => by cases h
  | .br b x y, h => by
    cases b
    · exact DT.go_some (d := y) h
    · exact DT.go_some (d := x) h

structure EnvK where
  ora : FuncId → List PV → Option PV := fun _ _ => none
  live : FuncId → Nat → Option (List Tmp) := fun _ _ => none
  lo : FuncId → Nat → Nat → List PV → List Row → Option (DT (PX × List PV × List Row)) := fun _ _ _ _ _ => none
  keep : FuncId → Bool := fun _ => false
  cal : Nat → FuncId → List PV → List Row → Option (DT (PV × List Row)) := fun _ _ _ _ => none
  nils : FuncId → Nat → List (Tmp × TypeId × Nat) := fun _ _ => []
  pure : FuncId → Bool := fun _ => false
  orD : FuncId → List PV → Option (DT PV) := fun _ _ => none
def EnvK.env (E : EnvK) : Env where
  ora f a := match E.orD f a with | some d => d.run | none => E.ora f a
  live := E.live
  lo f ro i S H := (E.lo f ro i S H).bind DT.run
  keep := E.keep
  cal ro k args H := (E.cal ro k args H).bind DT.run
  nils := E.nils
  pure := E.pure

section
variable {α : Type}
def need (c : Bool) (k : Option α) : Option α := bif c then k else none
theorem need_some {c : Bool} {k : Option α} {r : α} (h : need c k = some r) : c = true ∧ k = some r := by
  cases c
  · cases h
  · exact ⟨rfl, h⟩
def dflt {β : Type} (o : Option β) (k : β → Option α) : Option α := match o with | some p => k p | none => none
theorem dflt_some {β : Type} {o : Option β} {k : β → Option α} {r : α} (h : dflt o k = some r) : ∃ p, o = some p ∧ k p = some r := by
  cases o with
  | none => cases h
  | some p => exact ⟨p, rfl, h⟩

def binK (P : Program) (op : BinOp) (T : TypeId) (x0 y0 : Operand) (x y : PV) (k : PV → Option α) : Option α :=
  match x, y with
  | .val (.int ka a), .val (.int kb b) =>
    match op with
    | .quo => need (ka == kb && !decide (b = 0)) (k (.val (.int ka (ka.wrap (a.tdiv b)))))
    | .rem => need (ka == kb && !decide (b = 0)) (k (.val (.int ka (a.tmod b))))
    | .shl => need (!decide (b < 0)) (k (.val (.int ka (ka.wrap (a * 2 ^ min b.toNat ka.bits)))))
    | .shr => need (!decide (b < 0)) (k (.val (.int ka (a.fdiv (2 ^ min b.toNat ka.bits)))))
    | op => dflt (binV P op T x0 y0 (.val (.int ka a)) (.val (.int kb b))) k
  | .val (.string a), .val (.string b) =>
    match op with
    | .add => need (!decide (((a.size + b.size : Nat) : Int) > IntKind.i64.max)) (k (.val (.string (a ++ b))))
    | op => dflt (strV op a b) k
  | .lst _ _ es, .val (.slice none 0 0) =>
    match P.underlying T, op with
    | some (.slice _), .eql => need (decide (0 < es.length)) (k (.val (.bool false)))
    | some (.slice _), .neq => need (decide (0 < es.length)) (k (.val (.bool true)))
    | _, _ => none
  | x, y => dflt (binV P op T x0 y0 x y) k
theorem binK_some {P : Program} {op : BinOp} {T : TypeId} {x0 y0 : Operand} {x y : PV} {k : PV → Option α} {r : α} (h : binK P op T x0 y0 x y k = some r) : ∃ p, binV P op T x0 y0 x y = some p ∧ k p = some r := by
  unfold binK at h
  split at h
  · rename_i ka a kb b
    split at h
    · obtain ⟨h1, h2⟩ := need_some h
      simp only [Bool.and_eq_true, beq_iff_eq, Bool.not_eq_true', decide_eq_false_iff_not] at h1
      exact ⟨_, by simp [binV, h1.1, intV, h1.2], h2⟩
    · obtain ⟨h1, h2⟩ := need_some h
      simp only [Bool.and_eq_true, beq_iff_eq, Bool.not_eq_true', decide_eq_false_iff_not] at h1
      exact ⟨_, by simp [binV, h1.1, intV, h1.2], h2⟩
    · obtain ⟨h1, h2⟩ := need_some h
      simp only [Bool.not_eq_true', decide_eq_false_iff_not] at h1
      exact ⟨_, by simp only [binV]; rw [if_neg h1], h2⟩
    · obtain ⟨h1, h2⟩ := need_some h
      simp only [Bool.not_eq_true', decide_eq_false_iff_not] at h1
      exact ⟨_, by simp only [binV]; rw [if_neg h1], h2⟩
    · exact dflt_some h
  · rename_i a b
    split at h
    · obtain ⟨h1, h2⟩ := need_some h
      simp only [Bool.not_eq_true', decide_eq_false_iff_not] at h1
      exact ⟨_, by simp only [binV, strV]; rw [if_neg h1], h2⟩
    · obtain ⟨p, h1, h2⟩ := dflt_some h
      exact ⟨p, by simpa [binV] using h1, h2⟩
  · split at h
    · rename_i hu
      obtain ⟨h1, h2⟩ := need_some h
      exact ⟨_, by simp only [binV, hu]; rw [if_pos (of_decide_eq_true h1)], h2⟩
    · rename_i hu
      obtain ⟨h1, h2⟩ := need_some h
      exact ⟨_, by simp only [binV, hu]; rw [if_pos (of_decide_eq_true h1)], h2⟩
    · cases h
  · exact dflt_some h

def binHK (P : Program) (H : List Row) (op : BinOp) (T : TypeId) (x0 y0 : Operand) (x y : PV) (k : PV → Option α) : Option α :=
  match x, y with
  | .sl i n _ _, .val (.slice none 0 0) =>
    match rowAt H i, P.underlying T, op with
    | some r, some (.slice _), .eql => need (r.es.length == n) (bif r.nl then k (.val (.bool true)) else k (.val (.bool false)))
    | some r, some (.slice _), .neq => need (r.es.length == n) (bif r.nl then k (.val (.bool false)) else k (.val (.bool true)))
    | _, _, _ => none
  | x, y => binK P op T x0 y0 x y k
theorem binHK_some {P : Program} {H : List Row} {op : BinOp} {T : TypeId} {x0 y0 : Operand} {x y : PV} {k : PV → Option α} {r : α} (h : binHK P H op T x0 y0 x y k = some r) : ∃ p, binH P H op T x0 y0 x y = some p ∧ k p = some r := by
  unfold binHK at h
  split at h
  · split at h
    · rename_i r0 _ hr hu
      obtain ⟨h1, h2⟩ := need_some h
      refine ⟨.val (.bool r0.nl), by simp only [binH, hr, hu]; rw [if_pos (by simpa using h1)], ?_⟩
      cases hn : r0.nl <;> rw [hn] at h2 <;> exact h2
    · rename_i r0 _ hr hu
      obtain ⟨h1, h2⟩ := need_some h
      refine ⟨.val (.bool !r0.nl), by simp only [binH, hr, hu]; rw [if_pos (by simpa using h1)], ?_⟩
      cases hn : r0.nl <;> rw [hn] at h2 <;> exact h2
    · cases h
  · rename_i hne
    obtain ⟨p, h1, h2⟩ := binK_some h
    refine ⟨p, ?_, h2⟩
    unfold binH
    split
    · exact absurd rfl (hne _ _ _ _ rfl)
    · exact h1

def grabK (P : Program) (t : TypeId) (bv : Bool) (s : Nat) (e : PV) (T : TypeId) (j : Nat) (k : PV → Option α) : Option α :=
  match known P T with
  | true =>
    match isAggT P T with
    | true => need (decide (j + P.cellsOf T ≤ s)) (bif bv then k (.agg ((List.range (P.cellsOf T)).map fun x => pick P t true e (j + x))) else k (.agg ((List.range (P.cellsOf T)).map fun x => pick P t false e (j + x))))
    | false => need (decide (j < s)) (bif bv then k (pick P t true e j) else k (pick P t false e j))
  | false => none
theorem grabK_some {P : Program} {t : TypeId} {bv : Bool} {s : Nat} {e : PV} {T : TypeId} {j : Nat} {k : PV → Option α} {r : α} (h : grabK P t bv s e T j k = some r) : ∃ p, grab P t bv s e T j = some p ∧ k p = some r := by
  unfold grabK at h
  unfold grab
  split at h
  · rename_i hk
    rw [if_pos hk]
    split at h
    · rename_i ha
      obtain ⟨h1, h2⟩ := need_some h
      rw [if_pos ha, if_pos (by simpa using h1)]
      cases bv <;> exact ⟨_, rfl, h2⟩
    · rename_i ha
      obtain ⟨h1, h2⟩ := need_some h
      rw [if_neg (by simp [ha]), if_pos (by simpa using h1)]
      cases bv <;> exact ⟨_, rfl, h2⟩
  · cases h

def loadK (P : Program) (H : List Row) (T : TypeId) (x : PV) (k : PV → Option α) : Option α :=
  match x with
  | .ptr i n m j =>
    match rowAt H i with
    | some r => need (r.es.length == n) (grabK P r.t r.bv r.s (r.es.getD m .any) T j k)
    | none => none
  | .lptr t e j => grabK P t true (P.cellsOf t) e T j k
  | _ => none
theorem loadK_some {P : Program} {H : List Row} {T : TypeId} {x : PV} {k : PV → Option α} {r : α} (h : loadK P H T x k = some r) : ∃ p, loadQ P H T x = some p ∧ k p = some r := by
  unfold loadK at h
  split at h
  · split at h
    · rename_i hr
      obtain ⟨h1, h2⟩ := need_some h
      obtain ⟨p, h3, h4⟩ := grabK_some h2
      exact ⟨p, by simp only [loadQ, hr]; rw [if_pos (by simpa using h1)]; exact h3, h4⟩
    · cases h
  · exact grabK_some h
  · cases h

def fieldAddrK (P : Program) (H : List Row) (T : TypeId) (i : Nat) (x : PV) (k : PV → Option α) : Option α :=
  match P.underlying T with
  | some (.struct fs) =>
    match fs[i]? with
    | some fd => need (known P fd.type && P.cellsOf fd.type != 0 && okPtr H x) (k (addOff fd.offset x))
    | none => none
  | _ => none
theorem fieldAddrK_some {P : Program} {H : List Row} {T : TypeId} {i : Nat} {x : PV} {k : PV → Option α} {r : α} (h : fieldAddrK P H T i x k = some r) : ∃ p, fieldAddrQ P H T i x = some p ∧ k p = some r := by
  unfold fieldAddrK at h
  split at h
  · rename_i fs hu
    split at h
    · rename_i fd hf
      obtain ⟨h1, h2⟩ := need_some h
      exact ⟨_, by simp only [fieldAddrQ, hu, hf]; rw [if_pos h1], h2⟩
    · cases h
  · cases h

/-- One of the numbers below n. -/
def ofK (n : Nat) (z : Int) (k : Nat → Option α) : Option α :=
  match n with
  | 0 => none
  | m + 1 => bif decide (z = (m : Int)) then k m else ofK m z k
theorem ofK_some {z : Int} {k : Nat → Option α} {r : α} : ∀ {n : Nat}, ofK n z k = some r → ∃ m, m < n ∧ z = (m : Int) ∧ k m = some r
  | 0, h => by cases h
  | n + 1, h => by
    unfold ofK at h
    cases hd : decide (z = (n : Int)) with
    | true => rw [hd] at h; exact ⟨n, by omega, by simpa using hd, h⟩
    | false => rw [hd] at h; obtain ⟨m, h1, h2, h3⟩ := ofK_some (n := n) h; exact ⟨m, by omega, h2, h3⟩

def indexAddrK (P : Program) (H : List Row) (T : TypeId) (x ix : PV) (k : PV → Option α) : Option α :=
  match ixOf ix, P.underlying T with
  | some z, some (.array len e) => need (known P e && okPtr H x) (ofK len z fun m => k (addOff (m * P.cellsOf e) x))
  | some z, some (.slice e) =>
    match x with
    | .sl i n m len =>
      match rowAt H i with
      | some r => need (known P e && r.es.length == n && r.s == P.cellsOf e) (need (decide (0 ≤ z) && decide (z < len)) (k (.ptr i n (m + z.toNat) 0)))
      | none => none
    | .lst _ t es => need (known P e && t == e) (need (decide (0 ≤ z) && decide (z < es.length)) (k (.lptr t (es.getD z.toNat .any) 0)))
    | _ => none
  | _, _ => none
theorem indexAddrK_some {P : Program} {H : List Row} {T : TypeId} {x ix : PV} {k : PV → Option α} {r : α} (h : indexAddrK P H T x ix k = some r) : ∃ p, indexAddrQ P H T x ix = some p ∧ k p = some r := by
  unfold indexAddrK at h
  unfold indexAddrQ
  split at h
  · rename_i z len e hz hu
    obtain ⟨h1, h2⟩ := need_some h
    obtain ⟨m, g1, rfl, g3⟩ := ofK_some h2
    refine ⟨_, ?_, g3⟩
    simp only [hz, hu]
    rw [if_pos h1, if_pos ⟨by omega, by omega⟩]
    simp
  · rename_i z e hz hu
    simp only [hz, hu]
    split at h
    · split at h
      · rename_i hr
        obtain ⟨h1, h2⟩ := need_some h
        obtain ⟨h3, h4⟩ := need_some h2
        simp only [Bool.and_eq_true, decide_eq_true_eq] at h3
        simp only [hr]
        exact ⟨_, by rw [if_pos h1, if_pos h3], h4⟩
      · cases h
    · obtain ⟨h1, h2⟩ := need_some h
      obtain ⟨h3, h4⟩ := need_some h2
      simp only [Bool.and_eq_true, decide_eq_true_eq] at h3
      exact ⟨_, by dsimp only; rw [if_pos h1, if_pos h3], h4⟩
    · cases h
  · cases h

def indexK (P : Program) (T : TypeId) (x ix : PV) (k : PV → Option α) : Option α :=
  match ixOf ix, P.underlying T with
  | some z, some (.array len e) => need (x.isAgg && known P e) (ofK len z fun m => dflt (partQ P e x.cells (m * P.cellsOf e)) k)
  | some z, some .string =>
    match x with
    | .val (.string s) => need (decide (0 ≤ z) && decide (z < s.size)) (k (.val (.int .u8 (s.data.getD z.toNat 0).toNat)))
    | _ => none
  | _, _ => none
theorem indexK_some {P : Program} {T : TypeId} {x ix : PV} {k : PV → Option α} {r : α} (h : indexK P T x ix k = some r) : ∃ p, indexQ P T x ix = some p ∧ k p = some r := by
  unfold indexK at h
  unfold indexQ
  split at h
  · rename_i z len e hz hu
    obtain ⟨h1, h2⟩ := need_some h
    obtain ⟨m, g1, rfl, g3⟩ := ofK_some h2
    obtain ⟨p, h3, h4⟩ := dflt_some g3
    refine ⟨p, ?_, h4⟩
    simp only [hz, hu]
    rw [if_pos h1, if_pos ⟨by omega, by omega⟩]
    simpa using h3
  · rename_i z hz hu
    simp only [hz, hu]
    split at h
    · obtain ⟨h3, h4⟩ := need_some h
      simp only [Bool.and_eq_true, decide_eq_true_eq] at h3
      exact ⟨_, by simp only []; rw [if_pos h3], h4⟩
    · cases h
  · cases h

def sliceK (P : Program) (H : List Row) (T : TypeId) (x : PV) (lo hi mx : Option PV) (k : PV → Option α) : Option α :=
  match P.underlying T, x, natIx lo, natIx hi, natIx mx with
  | some .string, .val (.string s), some l, some h, some none =>
    need (decide (0 ≤ l.getD 0) && decide (l.getD 0 ≤ h.getD s.size) && decide (h.getD s.size ≤ s.size)) (k (.val (.string (s.extract (l.getD 0).toNat (h.getD s.size).toNat))))
  | some (.slice e), .lst full t es, some l, some h, some none =>
    need (known P e && t == e) (need (decide (0 ≤ l.getD 0) && decide (l.getD 0 ≤ h.getD es.length) && decide (h.getD es.length ≤ es.length))
      (k (.lst (full && h.isNone) t ((es.take (h.getD es.length).toNat).drop (l.getD 0).toNat))))
  | some (.slice e), .lst _ t es, some l, some (some h), some (some m) =>
    need (known P e && t == e) (need (decide (0 ≤ l.getD 0) && decide (l.getD 0 ≤ h) && decide (h ≤ m) && decide (m ≤ es.length))
      (k (.lst (h == m) t ((es.take h.toNat).drop (l.getD 0).toNat))))
  | some (.slice e), .sl i n m len, some none, some h, some none =>
    match rowAt H i with
    | some r => need (known P e && r.es.length == n && r.s == P.cellsOf e) (need (decide (0 ≤ h.getD len) && decide (h.getD len ≤ len)) (k (.sl i n m (h.getD len).toNat)))
    | none => none
  | some (.slice e), .sl i n m len, some (some l), some h, some none =>
    match rowAt H i with
    | some r => need (known P e && r.es.length == n && r.s == P.cellsOf e)
        (need (decide (0 ≤ l) && decide (l < len) && decide (l ≤ h.getD len) && decide (h.getD len ≤ len)) (k (.sl i n (m + l.toNat) (h.getD len - l).toNat)))
    | none => none
  | _, _, _, _, _ => none
theorem sliceK_some {P : Program} {H : List Row} {T : TypeId} {x : PV} {lo hi mx : Option PV} {k : PV → Option α} {r : α} (h : sliceK P H T x lo hi mx k = some r) : ∃ p, sliceQ P H T x lo hi mx = some p ∧ k p = some r := by
  unfold sliceK at h
  split at h
  · rename_i h1 h2 h3 h4
    obtain ⟨g1, g2⟩ := need_some h
    simp only [Bool.and_eq_true, decide_eq_true_eq] at g1
    exact ⟨_, by simp only [sliceQ, h1, h2, h3, h4]; rw [if_pos ⟨g1.1.1, g1.1.2, g1.2⟩], g2⟩
  · rename_i h1 h2 h3 h4
    obtain ⟨g0, g⟩ := need_some h
    obtain ⟨g1, g2⟩ := need_some g
    simp only [Bool.and_eq_true, decide_eq_true_eq] at g1
    exact ⟨_, by simp only [sliceQ, h1, h2, h3, h4]; rw [if_pos g0, if_pos ⟨g1.1.1, g1.1.2, g1.2⟩], g2⟩
  · rename_i h1 h2 h3 h4
    obtain ⟨g0, g⟩ := need_some h
    obtain ⟨g1, g2⟩ := need_some g
    simp only [Bool.and_eq_true, decide_eq_true_eq] at g1
    exact ⟨_, by simp only [sliceQ, h1, h2, h3, h4]; rw [if_pos g0, if_pos ⟨g1.1.1.1, g1.1.1.2, g1.1.2, g1.2⟩], g2⟩
  · rename_i h1 h2 h3 h4
    split at h
    · rename_i hr
      obtain ⟨g0, g⟩ := need_some h
      obtain ⟨g1, g2⟩ := need_some g
      simp only [Bool.and_eq_true, decide_eq_true_eq] at g1
      exact ⟨_, by simp only [sliceQ, h1, h2, h3, h4, hr]; rw [if_pos g0, if_pos ⟨g1.1, g1.2⟩], g2⟩
    · cases h
  · rename_i h1 h2 h3 h4
    split at h
    · rename_i hr
      obtain ⟨g0, g⟩ := need_some h
      obtain ⟨g1, g2⟩ := need_some g
      simp only [Bool.and_eq_true, decide_eq_true_eq] at g1
      exact ⟨_, by simp only [sliceQ, h1, h2, h3, h4, hr]; rw [if_pos g0, if_pos ⟨g1.1.1.1, g1.1.1.2, g1.1.2, g1.2⟩], g2⟩
    · cases h
  · cases h

def convHK (P : Program) (H : List Row) (src dst : TypeId) (x : PV) (k : PV → Option α) (other : Option α) : Option α :=
  match x with
  | .sl i n m len =>
    match rowAt H i, P.underlying src, P.underlying dst with
    | some r, some (.slice e), some .string => need (byteK P e && r.t == e && (r.es.length == n) && r.bv) (k (.val (.string (strB ((r.es.drop m).take len)))))
    | _, _, _ => none
  | x => match convH P H src dst x with | some p => k p | none => other
theorem convHK_some {P : Program} {H : List Row} {src dst : TypeId} {x : PV} {k : PV → Option α} {other : Option α} {r : α} (h : convHK P H src dst x k other = some r) :
    (∃ p, convH P H src dst x = some p ∧ k p = some r) ∨ (convH P H src dst x = none ∧ other = some r) := by
  unfold convHK at h
  split at h
  · split at h
    · rename_i hr hs hd
      obtain ⟨h1, h2⟩ := need_some h
      exact .inl ⟨_, by simp only [convH, hr, hs, hd]; rw [if_pos h1], h2⟩
    · cases h
  · split at h
    · rename_i hp; exact .inl ⟨_, hp, h⟩
    · rename_i hp; exact .inr ⟨hp, h⟩
def popK (P : Program) (H : List Row) (f : Operand → PV) (op : Op) (k : PV → Option α) (other : Option α) : Option α :=
  match op with
  | .load t a => loadK P H t (f a) k
  | .nilCheck x => need (okNil H (f x)) (k (f x))
  | .binOp op t x y _ => binHK P H op t x y (f x) (f y) k
  | .slice t x lo hi mx => match P.underlying t with | some (.array _ _) => none | _ => sliceK P H t (f x) (lo.map f) (hi.map f) (mx.map f) k
  | .fieldAddr t x i => fieldAddrK P H t i (f x) k
  | .indexAddr t x ix => indexAddrK P H t (f x) (f ix) k
  | .index t x ix => indexK P t (f x) (f ix) k
  | .convert s d x => convHK P H s d (f x) k other
  | op => match popQ P H f op with | some p => k p | none => other
theorem popK_some {P : Program} {H : List Row} {f : Operand → PV} {op : Op} {k : PV → Option α} {other : Option α} {r : α} (h : popK P H f op k other = some r) :
    (∃ p, popQ P H f op = some p ∧ k p = some r) ∨ (popQ P H f op = none ∧ other = some r) := by
  unfold popK at h
  split at h
  · exact .inl (loadK_some h)
  · obtain ⟨h1, h2⟩ := need_some h
    exact .inl ⟨_, by simp [popQ, h1], h2⟩
  · exact .inl (binHK_some h)
  · split at h
    · cases h
    · rename_i hu
      obtain ⟨p, h1, h2⟩ := sliceK_some h
      refine .inl ⟨p, ?_, h2⟩
      simp only [popQ]
      exact h1
  · exact .inl (fieldAddrK_some h)
  · exact .inl (indexAddrK_some h)
  · exact .inl (indexK_some h)
  · exact convHK_some h
  · split at h
    · rename_i hp; exact .inl ⟨_, hp, h⟩
    · rename_i hp; exact .inr ⟨hp, h⟩

/-- A row, with what is known of its being typed. -/
def rowK (r : Row) (k : Row → Option α) : Option α := bif r.bv then k { r with bv := true } else k { r with bv := false }
theorem rowK_eq (r : Row) (k : Row → Option α) : rowK r k = k r := by
  unfold rowK
  cases r with | mk es s t bv live nl lp => cases bv <;> rfl

def newK (P : Program) (H : List Row) (f : Operand → PV) (op : Op) (k : PV → Row → Option α) (other : Option α) : Option α :=
  match op with
  | .box T x => need (okc (f x) && (f x).cells.length == P.cellsOf T) (rowK (mkRow P T [f x]) fun r => k (.ptr H.length 1 0 0) r)
  | .makeSlice T l c =>
    match P.underlying T, f l, f c with
    | some (.slice e), .val (.int _ n), .val (.int _ m) =>
      match zeroQ P e with
      | some z =>
        need (okc (.val z) && known P e && z.cells.size == P.cellsOf e && decide (0 < P.cellsOf e) && decide (0 ≤ n) && decide (n ≤ m) && decide (m ≤ 2 ^ 40) && decide (P.bytesOf e ≤ 256))
          (rowK (mkRow P e (List.replicate n.toNat (.val z))) fun r => k (.sl H.length n.toNat 0 n.toNat) r)
      | none => none
    | _, _, _ => none
  | op => match newQ P H f op with | some (p, r) => rowK r fun r => k p r | none => other
theorem newK_some {P : Program} {H : List Row} {f : Operand → PV} {op : Op} {k : PV → Row → Option α} {other : Option α} {r : α} (h : newK P H f op k other = some r) :
    (∃ p rw, newQ P H f op = some (p, rw) ∧ k p rw = some r) ∨ (newQ P H f op = none ∧ other = some r) := by
  unfold newK at h
  split at h
  · obtain ⟨h1, h2⟩ := need_some h
    rw [rowK_eq] at h2
    exact .inl ⟨_, _, by simp only [newQ]; rw [if_pos h1], h2⟩
  · split at h
    · rename_i hu hl hc
      split at h
      · rename_i z hz
        obtain ⟨h1, h2⟩ := need_some h
        rw [rowK_eq] at h2
        exact .inl ⟨_, _, by simp only [newQ, hu, hl, hc, hz]; rw [if_pos h1], h2⟩
      · cases h
    · cases h
  · split at h
    · rename_i hp; rw [rowK_eq] at h; exact .inl ⟨_, _, hp, h⟩
    · rename_i hp; exact .inr ⟨hp, h⟩

def storeK (P : Program) (ro : Nat) (H : List Row) (T : TypeId) (a x : PV) (k : List Row → Option α) : Option α :=
  match a with
  | .ptr i n m j =>
    match rowAt H i with
    | some r =>
      need (decide (ro ≤ i) && okc x && x.cells.all cellish && r.es.length == n && x.cells.length == P.cellsOf T && known P T && decide (j + x.cells.length ≤ r.s))
        (dflt (setCells P r m j x.cells) fun r2 => rowK r2 fun r3 => k (H.set i r3))
    | none => none
  | _ => none
theorem storeK_some {P : Program} {ro : Nat} {H : List Row} {T : TypeId} {a x : PV} {k : List Row → Option α} {r : α} (h : storeK P ro H T a x k = some r) : ∃ H', storeQ P ro H T a x = some H' ∧ k H' = some r := by
  unfold storeK at h
  split at h
  · split at h
    · rename_i hr
      obtain ⟨h1, h2⟩ := need_some h
      obtain ⟨r2, h3, h4⟩ := dflt_some h2
      rw [rowK_eq] at h4
      exact ⟨_, by simp only [storeQ, hr]; rw [if_pos h1]; simp only [h3], h4⟩
    · cases h
  · cases h

def srcK (H : List Row) (y : PV) (k : Bool → TypeId → List PV → Option α) : Option α :=
  match y with
  | .sl i n m len =>
    match rowAt H i with
    | some r => need (r.es.length == n) (k r.bv r.t ((r.es.drop m).take len))
    | none => none
  | .lst _ t es => k true t es
  | _ => none
theorem srcK_some {H : List Row} {y : PV} {k : Bool → TypeId → List PV → Option α} {r : α} (h : srcK H y k = some r) : ∃ ty t news, srcOf H y = some (ty, t, news) ∧ k ty t news = some r := by
  unfold srcK at h
  split at h
  · split at h
    · rename_i hr
      obtain ⟨h1, h2⟩ := need_some h
      exact ⟨_, _, _, by simp only [srcOf, hr]; rw [if_pos (by simpa using h1)], h2⟩
    · cases h
  · exact ⟨_, _, _, rfl, h⟩
  · cases h

def appendK (P : Program) (ro : Nat) (H : List Row) (c : Call) (x y : PV) (k : PV → List Row → Option α) : Option α :=
  match c.argTypes[0]?, c.argTypes[1]? with
  | some T, some T2 =>
    match P.underlying T, P.underlying T2 with
    | some (.slice e), some (.slice _) =>
      srcK H y fun ty t news =>
      need (known P e && t == e && (zeroQ P e).any (fun z => z.cells.size == P.cellsOf e) && P.bytesOf e != 0 && (ty || cellishAll news))
        (match x with
        | .sl i n 0 len =>
          match rowAt H i with
          | some r =>
            need (decide (ro ≤ i) && decide (r.es.length = n) && decide (n = len) && decide ((n + news.length) * P.bytesOf e ≤ 140737488355328))
              (need (r.t == e && r.s == P.cellsOf e)
                (rowK { r with es := r.es ++ news, bv := r.bv && ty, nl := r.nl && news.isEmpty } fun r2 => k (.sl i (n + news.length) 0 (n + news.length)) (H.set i r2)))
          | none => none
        | .val (.slice none 0 0) =>
          need (decide (news.length * P.bytesOf e ≤ 140737488355328))
            (bif news.isEmpty then k x H else rowK { es := news, s := P.cellsOf e, t := e, bv := ty } fun r2 => k (.sl H.length news.length 0 news.length) (H ++ [r2]))
        | .lst true t2 es =>
          need (t2 == e) (need (decide ((es.length + news.length) * P.bytesOf e ≤ 140737488355328))
            (bif news.isEmpty then k x H else rowK { es := es ++ news, s := P.cellsOf e, t := e, bv := ty } fun r2 => k (.sl H.length (es.length + news.length) 0 (es.length + news.length)) (H ++ [r2])))
        | _ => none)
    | _, _ => none
  | _, _ => none
theorem appendK_some {P : Program} {ro : Nat} {H : List Row} {c : Call} {x y : PV} {k : PV → List Row → Option α} {r : α} (h : appendK P ro H c x y k = some r) : ∃ p H', appendQ P ro H c x y = some (p, H') ∧ k p H' = some r := by
  unfold appendK at h
  unfold appendQ
  split at h
  · rename_i T T2 h1 h2
    split at h
    · rename_i e e2 hu hu2
      obtain ⟨ty, t, news, hs, h⟩ := srcK_some h
      obtain ⟨hc, h⟩ := need_some h
      simp only [h1, h2, hu, hu2, hs]
      rw [if_pos hc]
      split at h
      · split at h
        · rename_i hr
          obtain ⟨g1, h⟩ := need_some h
          obtain ⟨g2, h⟩ := need_some h
          simp only [Bool.and_eq_true, decide_eq_true_eq] at g1
          rw [rowK_eq] at h
          simp only [hr]
          exact ⟨_, _, by rw [if_pos ⟨g1.1.1.1, g1.1.1.2, g1.1.2, g1.2⟩, if_pos g2], h⟩
        · cases h
      · obtain ⟨g1, h⟩ := need_some h
        rw [if_pos (by simpa using g1)]
        cases hn : news.isEmpty with
        | true => rw [hn] at h; exact ⟨_, _, by simp, h⟩
        | false => rw [hn] at h; simp only [cond_false, rowK_eq] at h; exact ⟨_, _, rfl, h⟩
      · obtain ⟨g0, h⟩ := need_some h
        obtain ⟨g1, h⟩ := need_some h
        dsimp only
        rw [if_pos g0, if_pos (by simpa using g1)]
        cases hn : news.isEmpty with
        | true => rw [hn] at h; exact ⟨_, _, rfl, h⟩
        | false => rw [hn] at h; simp only [cond_false, rowK_eq] at h; exact ⟨_, _, rfl, h⟩
      · cases h
    · cases h
  · cases h
def moreK (P : Program) (ro : Nat) (H : List Row) (f : Operand → PV) (op : Op) (k : PV → List Row → Option α) : Option α :=
  match op with
  | .call c =>
    match c.callee with
    | .builtin .clear =>
      match c.args.toList, c.argTypes[0]? with
      | [x], some T =>
        match P.underlying T with
        | some (.slice e) =>
          match zeroQ P e with
          | some z =>
            match f x with
            | .sl i n m len =>
              match rowAt H i with
              | some r => need (decide (ro ≤ i) && r.t == e && clearOk P e z && (r.es.length == n)) (bif r.nl then k (.val (.tuple #[])) H else rowK (clearRow P e z r m len) fun r2 => k (.val (.tuple #[])) (H.set i r2))
              | none => none
            | .val (.slice none 0 0) => k (.val (.tuple #[])) H
            | _ => none
          | none => none
        | _ => none
      | _, _ => none
    | _ => none
  | _ => none
theorem moreK_some {P : Program} {ro : Nat} {H : List Row} {f : Operand → PV} {op : Op} {k : PV → List Row → Option α} {r : α} (h : moreK P ro H f op k = some r) : ∃ p H', moreQ P ro H f op = some (p, H') ∧ k p H' = some r := by
  unfold moreK at h
  split at h
  · rename_i c
    split at h
    · rename_i hc
      split at h
      · rename_i x T ha hT
        split at h
        · rename_i e hu
          split at h
          · rename_i z hz
            split at h
            · rename_i i n m len hx
              split at h
              · rename_i rw hr
                obtain ⟨h1, h2⟩ := need_some h
                refine ⟨_, if rw.nl then H else H.set i (clearRow P e z rw m len), by simp only [moreQ, hc, ha, clearQ, hT, hu, hz, hx, hr]; rw [if_pos h1], ?_⟩
                cases hn : rw.nl with
                | true => rw [hn] at h2; exact h2
                | false => rw [hn] at h2; simp only [cond_false] at h2; rw [rowK_eq] at h2; exact h2
              · cases h
            · rename_i hx
              exact ⟨_, _, by simp only [moreQ, hc, ha, clearQ, hT, hu, hz, hx], h⟩
            · cases h
          · cases h
        · cases h
      · cases h
    · cases h
  · cases h
end
end Go.Hx
