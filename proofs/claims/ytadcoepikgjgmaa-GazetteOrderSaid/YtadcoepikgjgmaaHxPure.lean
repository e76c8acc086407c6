/- Hx: operations on plain values: arithmetic, comparisons, conversions, equality of structs and arrays of plain values. -/
import Derived.Test.YtadcoepikgjgmaaHxLoad
import Derived.DeepKeys
import Derived.WalkLawsBesides
namespace Go.Hx

def intV (op : BinOp) (k : IntKind) (a b : Int) : Option PV :=
  match op with
  | .add => some (.val (.int k (k.wrap (a + b))))
  | .sub => some (.val (.int k (k.wrap (a - b))))
  | .mul => some (.val (.int k (k.wrap (a * b))))
  | .quo => if b = 0 then none else some (.val (.int k (k.wrap (a.tdiv b))))
  | .rem => if b = 0 then none else some (.val (.int k (a.tmod b)))
  | .and => some (.val (.int k (bits .and k a b)))
  | .or => some (.val (.int k (bits .or k a b)))
  | .xor => some (.val (.int k (bits .xor k a b)))
  | .andNot => some (.val (.int k (bits .andNot k a b)))
  | .eql => some (.val (.bool (a == b)))
  | .neq => some (.val (.bool (a != b)))
  | .lss => some (.val (.bool (decide (a < b))))
  | .leq => some (.val (.bool (decide (a ≤ b))))
  | .gtr => some (.val (.bool (decide (a > b))))
  | .geq => some (.val (.bool (decide (a ≥ b))))
  | _ => none
def strV (op : BinOp) (x y : ByteArray) : Option PV :=
  match op with
  | .add => if ((x.size + y.size : Nat) : Int) > IntKind.i64.max then none else some (.val (.string (x ++ y)))
  | .eql => some (.val (.bool (x.toList == y.toList)))
  | .neq => some (.val (.bool !(x.toList == y.toList)))
  | .lss => some (.val (.bool (Op.bytesLess x.toList y.toList)))
  | .leq => some (.val (.bool (Op.bytesLess x.toList y.toList || x.toList == y.toList)))
  | .gtr => some (.val (.bool !(Op.bytesLess x.toList y.toList || x.toList == y.toList)))
  | .geq => some (.val (.bool !(Op.bytesLess x.toList y.toList)))
  | _ => none

/-- Equality of the cells of plain values of one type. -/
def eqAt (P : Program) : Nat → TypeId → List PV → List PV → Option Bool
  | 0, _, _, _ => none
  | d + 1, t, xs, ys =>
    match P.underlying t with
    | some .bool => match xs, ys with | [.val (.bool a)], [.val (.bool b)] => some (a == b) | _, _ => none
    | some (.int _) => match xs, ys with | [.val (.int k a)], [.val (.int k' b)] => if k = k' then some (a == b) else none | _, _ => none
    | some .string => match xs, ys with | [.val (.string a)], [.val (.string b)] => some (a.toList == b.toList) | _, _ => none
    | some (.struct fs) => if P.stoodInHeld t then none else fields (fun t => eqAt P d t) xs ys fs.toList
    | some (.array n e) => if known P e then items (fun t => eqAt P d t) e xs ys (List.range n) else none
    | _ => none
  where
  one (rec : TypeId → List PV → List PV → Option Bool) (t : TypeId) (off : Nat) (xs ys : List PV) : Option Bool :=
    if known P t && ((isAggT P t) || P.cellsOf t == 1) && decide (off + P.cellsOf t ≤ xs.length) && decide (off + P.cellsOf t ≤ ys.length) then
      rec t ((xs.drop off).take (P.cellsOf t)) ((ys.drop off).take (P.cellsOf t)) else none
  fields (rec : TypeId → List PV → List PV → Option Bool) (xs ys : List PV) : List Field → Option Bool
    | [] => some true
    | f :: fs =>
      if f.name ≠ "_" then
        match one rec f.type f.offset xs ys, fields rec xs ys fs with
        | some a, some b => some (a && b)
        | _, _ => none
      else fields rec xs ys fs
  items (rec : TypeId → List PV → List PV → Option Bool) (e : TypeId) (xs ys : List PV) : List Nat → Option Bool
    | [] => some true
    | i :: is =>
      match one rec e (i * P.cellsOf e) xs ys, items rec e xs ys is with
      | some a, some b => some (a && b)
      | _, _ => none

/-- A value of type t with these cells. -/
def vOf (P : Program) (t : TypeId) (a : Array Value) : Value := if isAggT P t then .agg a else a.getD 0 undef

def Cs (P : Program) (C : Ctx) (xs : List PV) (a : Array Value) : Prop := a.size = xs.length ∧ ∀ (j : Nat) c v, xs[j]? = some c → a[j]? = some v → RV P C c v
theorem Cs.sub {P : Program} {C : Ctx} {xs : List PV} {a : Array Value} (h : Cs P C xs a) (off n : Nat) (hn : off + n ≤ xs.length) : Cs P C ((xs.drop off).take n) (a.extract off (off + n)) := by
  refine ⟨by simp [h.1]; omega, fun j c v h1 h2 => ?_⟩
  rw [List.getElem?_take] at h1
  split at h1
  · rw [List.getElem?_drop] at h1
    rw [Array.getElem?_extract] at h2
    split at h2
    · exact h.2 (off + j) c v h1 h2
    · cases h2
  · cases h1

section
variable {P : Program} (w : World)
theorem run_part_at {t : TypeId} (h : known P t = true) (hs : (isAggT P t || P.cellsOf t == 1) = true) (a : Array Value) (off : Nat) (hn : off + P.cellsOf t ≤ a.size) :
    (part t a off).run P w = .ok (vOf P t (a.extract off (off + P.cellsOf t))) w := by
  unfold part vOf
  simp only [Sem.run_bind, run_isAgg w h, Result.andThen_ok]
  by_cases ha : isAggT P t = true
  · simp [ha, run_sizeOf w h]
  · simp only [ha, Bool.false_or, beq_iff_eq] at hs
    simp only [hs] at hn ⊢
    have : a[off]? = some (a[off]'(by omega)) := Array.getElem?_eq_getElem (by omega)
    simp only [ha, Bool.false_eq_true, if_false, this, Sem.run_pure]
    congr 1
    have h3 : (a.extract off (off + 1))[0]? = some (a[off]'(by omega)) := by
      rw [Array.getElem?_extract]; rw [if_pos (by omega)]; simp
    simp only [Array.getD_eq_getD_getElem?, h3, Option.getD_some]

theorem run_equalIn_array (d : Nat) (t e : TypeId) (n : Nat) (xs ys : Array Value) (ht : P.underlying t = some (.array n e)) (hk : known P e = true) :
    (Op.equalIn (d + 1) t (.agg xs) (.agg ys)).run P w = (Op.eqItems d e (P.cellsOf e) xs ys (List.range n)).run P w := by
  simp only [Op.equalIn, Sem.run_bind, run_underlying ht, Result.andThen_ok, run_sizeOf w hk]
  rw [Std.Legacy.Range.forIn_eq_forIn_range']
  simp only [Std.Legacy.Range.size, Nat.sub_zero, Nat.add_sub_cancel, Nat.div_one, ← List.range_eq_range']
  generalize List.range n = is
  induction is generalizing w with
  | nil => simp [Op.eqItems]
  | cons i is ih =>
    simp only [List.forIn_cons, Op.eqItems, Sem.run_bind]
    generalize (part e xs (i * P.cellsOf e)).run P w = r1
    cases r1 with
    | ok a w1 =>
      simp only [Result.andThen_ok]
      generalize (part e ys (i * P.cellsOf e)).run P w1 = r2
      cases r2 with
      | ok b w2 =>
        simp only [Result.andThen_ok]
        generalize (Op.equalIn d e a b).run P w2 = r3
        cases r3 with
        | ok r w3 =>
          cases r
          · simp
          · simpa using ih w3
        | halt x w3 => simp [Result.andThen]
      | halt x w2 => simp [Result.andThen]
    | halt x w1 => simp [Result.andThen]
end

theorem eqAt_sound {P : Program} {C : Ctx} : ∀ (d : Nat) {t : TypeId} {xs ys : List PV} {r : Bool}, eqAt P d t xs ys = some r → ∀ (a b : Array Value), Cs P C xs a → Cs P C ys b →
    ∀ (D : Nat) (w : World), d ≤ D → (Op.equalIn D t (vOf P t a) (vOf P t b)).run P w = .ok r w
  | 0, _, _, _, _, h => by simp [eqAt] at h
  | d + 1, t, xs, ys, r, h => by
    intro a b ha hb D w hD
    obtain ⟨D, rfl⟩ : ∃ D', D = D' + 1 := ⟨D - 1, by omega⟩
    have one : ∀ {t : TypeId} {off : Nat} {r : Bool}, eqAt.one P (fun t => eqAt P d t) t off xs ys = some r → known P t = true ∧
        ∃ x y, (∀ w, (part t a off).run P w = .ok x w) ∧ (∀ w, (part t b off).run P w = .ok y w) ∧ ∀ w, (Op.equalIn D t x y).run P w = .ok r w := by
      intro t off r h
      unfold eqAt.one at h
      split at h
      · rename_i hc
        simp only [Bool.and_eq_true, decide_eq_true_eq] at hc
        obtain ⟨⟨⟨h1, h2⟩, h3⟩, h4⟩ := hc
        refine ⟨h1, _, _, fun w => run_part_at w h1 h2 a off (by rw [ha.1]; exact h3), fun w => run_part_at w h1 h2 b off (by rw [hb.1]; exact h4), fun w => ?_⟩
        exact eqAt_sound d h _ _ (ha.sub off _ h3) (hb.sub off _ h4) D w (by omega)
      · cases h
    unfold eqAt at h
    split at h
    · rename_i hu
      split at h
      · cases h
        have := ha.1; have := hb.1
        obtain ⟨x, rfl⟩ : ∃ x, a = #[x] := by
          match a, ha.1 with | ⟨[x]⟩, _ => exact ⟨x, rfl⟩
        obtain ⟨y, rfl⟩ : ∃ x, b = #[x] := by
          match b, hb.1 with | ⟨[x]⟩, _ => exact ⟨x, rfl⟩
        cases ha.2 0 _ _ rfl rfl
        cases hb.2 0 _ _ rfl rfl
        have hag : isAggT P t = false := by simp [isAggT, hu]
        simp [vOf, hag, Op.equalIn, run_underlying hu]
      · cases h
    · rename_i q hu
      split at h
      · split at h
        · rename_i hk
          subst hk
          cases h
          obtain ⟨x, rfl⟩ : ∃ x, a = #[x] := by
            match a, ha.1 with | ⟨[x]⟩, _ => exact ⟨x, rfl⟩
          obtain ⟨y, rfl⟩ : ∃ x, b = #[x] := by
            match b, hb.1 with | ⟨[x]⟩, _ => exact ⟨x, rfl⟩
          cases ha.2 0 _ _ rfl rfl
          cases hb.2 0 _ _ rfl rfl
          have hag : isAggT P t = false := by simp [isAggT, hu]
          simp [vOf, hag, Op.equalIn, run_underlying hu]
        · cases h
      · cases h
    · rename_i hu
      split at h
      · cases h
        obtain ⟨x, rfl⟩ : ∃ x, a = #[x] := by
          match a, ha.1 with | ⟨[x]⟩, _ => exact ⟨x, rfl⟩
        obtain ⟨y, rfl⟩ : ∃ x, b = #[x] := by
          match b, hb.1 with | ⟨[x]⟩, _ => exact ⟨x, rfl⟩
        cases ha.2 0 _ _ rfl rfl
        cases hb.2 0 _ _ rfl rfl
        have hag : isAggT P t = false := by simp [isAggT, hu]
        simp [vOf, hag, Op.equalIn, run_underlying hu, beq_toListBytes]
      · cases h
    · rename_i fs hu
      split at h
      · cases h
      · rename_i hst
        have hag : isAggT P t = true := by simp [isAggT, hu]
        have hf : P.fieldsOf t = fs := by simp [Program.fieldsOf, hu]
        simp only [vOf, hag, if_true]
        rw [run_equalIn_struct w D t a b (by rw [hf]; exact hu) (by simpa using hst), hf]
        revert h
        generalize fs.toList = l
        induction l generalizing r w with
        | nil => intro h; simp only [eqAt.fields, Option.some.injEq] at h; subst h; simp [Op.eqFields]
        | cons f l ih =>
          intro h
          simp only [eqAt.fields] at h
          simp only [Op.eqFields]
          split at h
          · rename_i hn
            rw [if_pos hn]
            split at h
            · rename_i p q h1 h2
              cases h
              obtain ⟨_, x, y, e1, e2, e3⟩ := one h1
              simp only [Sem.run_bind, e1, e2, e3, Result.andThen_ok]
              cases p
              · simp
              · simpa using ih _ w h2
            · cases h
          · rename_i hn
            rw [if_neg hn]
            exact ih _ w h
    · rename_i n e hu
      have hag : isAggT P t = true := by simp [isAggT, hu]
      simp only [vOf, hag, if_true]
      split at h
      · rename_i hke
        rw [run_equalIn_array w D t e n a b hu hke]
        revert h
        generalize List.range n = l
        induction l generalizing r w with
        | nil => intro h; simp only [eqAt.items, Option.some.injEq] at h; subst h; simp [Op.eqItems]
        | cons i l ih =>
          intro h
          simp only [eqAt.items] at h
          simp only [Op.eqItems]
          split at h
          · rename_i p q h1 h2
            cases h
            obtain ⟨_, x, y, e1, e2, e3⟩ := one h1
            simp only [Sem.run_bind, e1, e2, e3, Result.andThen_ok]
            cases p
            · simp
            · simpa using ih _ w h2
          · cases h
      · cases h
    · cases h
def PV.isAgg : PV → Bool
  | .agg _ => true
  | .val (.agg _) => true
  | _ => false
theorem RV.ofAgg {P : Program} {C : Ctx} {p : PV} {V : Value} (h : RV P C p V) (hp : p.isAgg = true) : ∃ a, V = .agg a ∧ Cs P C p.cells a := by
  cases h <;> simp [PV.isAgg] at hp
  case val =>
    split at hp
    · rename_i e; cases e
    · rename_i a' e
      cases e
      refine ⟨_, rfl, by simp [PV.cells], fun j c v h1 h2 => ?_⟩
      simp only [PV.cells, List.getElem?_map, Option.map_eq_some_iff] at h1
      obtain ⟨x, hx, rfl⟩ := h1
      have : x = v := Option.some.inj (hx.symm.trans (by rw [Array.getElem?_toList]; exact h2))
      subst this
      exact .val
    · cases hp
  case agg a hs h => exact ⟨_, rfl, hs, h⟩

/-- x op y. 'x0', 'y0': the operands themselves. -/
def binV (P : Program) (op : BinOp) (T : TypeId) (x0 y0 : Operand) (x y : PV) : Option PV :=
  match x, y with
  | .val (.int k a), .val (.int k' b) =>
    match op with
    | .shl => if b < 0 then none else some (.val (.int k (k.wrap (a * 2 ^ min b.toNat k.bits))))
    | .shr => if b < 0 then none else some (.val (.int k (a.fdiv (2 ^ min b.toNat k.bits))))
    | op => if k = k' then intV op k a b else none
  | .val (.string a), .val (.string b) => strV op a b
  | .val (.bool a), .val (.bool b) =>
    match P.underlying T, op with
    | some .bool, .eql => some (.val (.bool (a == b)))
    | some .bool, .neq => some (.val (.bool !(a == b)))
    | _, _ => none
  | .ifc _ _, .val .nilIface | .val .nilIface, .ifc _ _ =>
    match P.underlying T, op with
    | some (.interface _), .eql => some (.val (.bool false))
    | some (.interface _), .neq => some (.val (.bool true))
    | _, _ => none
  | .val .nilIface, .val .nilIface =>
    match P.underlying T, op, (x0 matches .const _) || (y0 matches .const _) with
    | some (.interface _), .eql, true => some (.val (.bool true))
    | some (.interface _), .neq, true => some (.val (.bool false))
    | _, _, _ => none
  | .fn _ _ _, .val .nilFunc | .val .nilFunc, .fn _ _ _ =>
    match P.underlying T, op with
    | some (.func _ _ _), .eql => some (.val (.bool false))
    | some (.func _ _ _), .neq => some (.val (.bool true))
    | _, _ => none
  | .lst _ _ es, .val (.slice none 0 0) =>
    match P.underlying T, op with
    | some (.slice _), .eql => if 0 < es.length then some (.val (.bool false)) else none
    | some (.slice _), .neq => if 0 < es.length then some (.val (.bool true)) else none
    | _, _ => none
  | x, y =>
    if x.isAgg && y.isAgg && isAggT P T && !P.eqGuardType P.depth T then
      match op, eqAt P 40 T x.cells y.cells with
      | .eql, some b => some (.val (.bool b))
      | .neq, some b => some (.val (.bool !b))
      | _, _ => none
    else none

def unV (op : UnOp) (x : PV) : Option PV :=
  match op, x with
  | .neg, .val (.int k n) => some (.val (.int k (k.wrap (0 - n))))
  | .xor, .val (.int k n) => some (.val (.int k (bits .xor k (if k.signed then -1 else k.max) n)))
  | .not, .val (.bool b) => some (.val (.bool !b))
  | _, _ => none

theorem intV_sound {P : Program} {op : BinOp} {k : IntKind} {a b : Int} {p : PV} (h : intV op k a b = some p) (T : TypeId) (w : World) :
    ∃ v, (binOp op T (.int k a) (.int k b)).run P w = .ok v w ∧ p = .val v := by
  cases op <;> simp only [intV, Option.some.injEq, reduceCtorEq] at h
  case quo =>
    split at h
    · cases h
    · rename_i hb; cases h; exact ⟨_, by simp [binOp, Op.intDiv, hb], rfl⟩
  case rem =>
    split at h
    · cases h
    · rename_i hb; cases h; exact ⟨_, by simp [binOp, Op.intDiv, hb], rfl⟩
  all_goals (subst h; exact ⟨_, by simp [binOp, Op.intArith, Op.intBits, Op.intCmp, bits], rfl⟩)

theorem strV_sound {P : Program} {op : BinOp} {a b : ByteArray} {p : PV} (h : strV op a b = some p) (T : TypeId) (w : World) :
    ∃ v, (binOp op T (.string a) (.string b)).run P w = .ok v w ∧ p = .val v := by
  cases op <;> simp only [strV, Option.some.injEq, reduceCtorEq] at h
  case add =>
    split at h
    · cases h
    · rename_i hb; cases h; exact ⟨_, by simp only [binOp, Op.stringOp]; rw [if_neg hb]; rfl, rfl⟩
  all_goals (subst h; exact ⟨_, by simp [binOp, Op.stringOp], rfl⟩)

theorem run_eqGuard_other {P : Program} {op : BinOp} {T : TypeId} {x y : Operand} {a b : Value} (w : World) (h1 : a ≠ .nilIface ∨ b ≠ .nilIface) (h2 : (∀ c, a ≠ .agg c) ∨ (∀ c, b ≠ .agg c)) :
    (eqGuard op T x y a b).run P w = .ok () w := by
  have key : (match a, b with
      | Value.nilIface, Value.nilIface => (do
        if (x matches .const _) || (y matches .const _) then return
        if ← Op.eqGuardIn Op.maxDepth T a b then unsupported (.noEntry "binop/eql: two nil values of an interface type with methods, neither of them the literal nil") : Sem Unit)
      | .agg _, .agg _ => (do
        if !(← program).eqGuardType (← program).depth T then return
        if ← Op.eqGuardIn Op.maxDepth T a b then unsupported (.noEntry "binop/eql: two nil values of an interface type with methods, in a part of a struct or an array") : Sem Unit)
      | _, _ => pure ()).run P w = .ok () w := by
    split
    · rcases h1 with h | h <;> exact absurd rfl h
    · rcases h2 with h | h <;> exact absurd rfl (h _)
    · rfl
  cases op <;> first | rfl | exact key

theorem run_bin_other {P : Program} {op : BinOp} {T : TypeId} {x y : Operand} {a b : Value} (w : World) (h1 : a ≠ .nilIface ∨ b ≠ .nilIface) (h2 : (∀ c, a ≠ .agg c) ∨ (∀ c, b ≠ .agg c)) :
    (do eqGuard op T x y a b; binOp op T a b : Sem Value).run P w = (binOp op T a b).run P w := by
  simp [run_eqGuard_other w h1 h2]

section
variable {P : Program} {T : TypeId} {X Y : Value} {r : Bool} (w : World)
theorem run_eql_of (hb : binOp .eql T X Y = (do pure (.bool (← Op.equal T X Y)))) (he : ∀ d, (Op.equalIn (d + 1) T X Y).run P w = .ok r w) : (binOp .eql T X Y).run P w = .ok (.bool r) w := by
  have h2 : (Op.equal T X Y).run P w = .ok r w := he 9999
  rw [hb]; simp [h2]
theorem run_neq_of (hb : binOp .neq T X Y = (do pure (.bool (!(← Op.equal T X Y))))) (he : ∀ d, (Op.equalIn (d + 1) T X Y).run P w = .ok r w) : (binOp .neq T X Y).run P w = .ok (.bool !r) w := by
  have h2 : (Op.equal T X Y).run P w = .ok r w := he 9999
  rw [hb]; simp [h2]
end

theorem binV_sound {P : Program} {C : Ctx} {op : BinOp} {T : TypeId} {x0 y0 : Operand} {x y p : PV} {X Y : Value} (hx : RV P C x X) (hy : RV P C y Y) (h : binV P op T x0 y0 x y = some p) (w : World) :
    ∃ v, (do eqGuard op T x0 y0 X Y; binOp op T X Y : Sem Value).run P w = .ok v w ∧ p = .val v := by
  unfold binV at h
  split at h
  · rename_i k a k' b
    cases hx; cases hy
    rw [run_bin_other w (.inl (by simp)) (.inl (by simp))]
    split at h
    · split at h
      · cases h
      · rename_i hb; cases h; exact ⟨_, by simp [binOp, Op.shift, hb], rfl⟩
    · split at h
      · cases h
      · rename_i hb; cases h; exact ⟨_, by simp [binOp, Op.shift, hb], rfl⟩
    · split at h
      · rename_i hk; subst hk; exact intV_sound h T w
      · cases h
  · cases hx; cases hy
    rw [run_bin_other w (.inl (by simp)) (.inl (by simp))]
    exact strV_sound h T w
  · cases hx; cases hy
    rw [run_bin_other w (.inl (by simp)) (.inl (by simp))]
    split at h
    · rename_i hu; cases h; exact ⟨_, run_eql_of w rfl (fun d => by simp [Op.equalIn, run_underlying hu]; try rfl), by simp⟩
    · rename_i hu; cases h; exact ⟨_, run_neq_of w rfl (fun d => by simp [Op.equalIn, run_underlying hu]; try rfl), by simp⟩
    · cases h
  · cases hx; cases hy
    rw [run_bin_other w (.inl (by simp)) (.inl (by simp))]
    split at h
    · rename_i hu; cases h; exact ⟨_, run_eql_of w rfl (fun d => by simp [Op.equalIn, run_underlying hu]; try rfl), by simp⟩
    · rename_i hu; cases h; exact ⟨_, run_neq_of w rfl (fun d => by simp [Op.equalIn, run_underlying hu]; try rfl), by simp⟩
    · cases h
  · cases hx; cases hy
    rw [run_bin_other w (.inr (by simp)) (.inl (by simp))]
    split at h
    · rename_i hu; cases h; exact ⟨_, run_eql_of w rfl (fun d => by simp [Op.equalIn, run_underlying hu]; try rfl), by simp⟩
    · rename_i hu; cases h; exact ⟨_, run_neq_of w rfl (fun d => by simp [Op.equalIn, run_underlying hu]; try rfl), by simp⟩
    · cases h
  · cases hx; cases hy
    split at h
    · rename_i hu hc; cases h
      exact ⟨_, by rw [Sem.run_bind, show (eqGuard .eql T x0 y0 .nilIface .nilIface).run P w = .ok () w by (cases x0 <;> cases y0 <;> first | (simp at hc; done) | simp [eqGuard]), Result.andThen_ok]; exact run_eql_of w rfl (fun d => by simp [Op.equalIn, run_underlying hu]; try rfl), by simp⟩
    · rename_i hu hc; cases h
      exact ⟨_, by rw [Sem.run_bind, show (eqGuard .neq T x0 y0 .nilIface .nilIface).run P w = .ok () w by (cases x0 <;> cases y0 <;> first | (simp at hc; done) | simp [eqGuard]), Result.andThen_ok]; exact run_neq_of w rfl (fun d => by simp [Op.equalIn, run_underlying hu]; try rfl), by simp⟩
    · cases h
  · cases hx; cases hy
    rw [run_bin_other w (.inl (by simp)) (.inl (by simp))]
    split at h
    · rename_i hu; cases h; exact ⟨_, run_eql_of w rfl (fun d => by simp [Op.equalIn, run_underlying hu]; try rfl), by simp⟩
    · rename_i hu; cases h; exact ⟨_, run_neq_of w rfl (fun d => by simp [Op.equalIn, run_underlying hu]; try rfl), by simp⟩
    · cases h
  · cases hx; cases hy
    rw [run_bin_other w (.inl (by simp)) (.inl (by simp))]
    split at h
    · rename_i hu; cases h; exact ⟨_, run_eql_of w rfl (fun d => by simp [Op.equalIn, run_underlying hu]; try rfl), by simp⟩
    · rename_i hu; cases h; exact ⟨_, run_neq_of w rfl (fun d => by simp [Op.equalIn, run_underlying hu]; try rfl), by simp⟩
    · cases h
  · cases hy
    cases hx with
    | lst b off cv hcap hfull ha hc hr ht =>
    rw [run_bin_other w (.inl (by simp)) (.inl (by simp))]
    split at h
    · rename_i hu
      split at h
      · rename_i hl
        cases h
        obtain ⟨rfl, _⟩ := ha hl
        exact ⟨_, run_eql_of w rfl (fun d => by simp [Op.equalIn, run_underlying hu]; try rfl), by simp⟩
      · cases h
    · rename_i hu
      split at h
      · rename_i hl
        cases h
        obtain ⟨rfl, _⟩ := ha hl
        exact ⟨_, run_neq_of w rfl (fun d => by simp [Op.equalIn, run_underlying hu]; try rfl), by simp⟩
      · cases h
    · cases h
  · split at h
    · rename_i hc
      simp only [Bool.and_eq_true, Bool.not_eq_true'] at hc
      obtain ⟨⟨⟨h1, h2⟩, h3⟩, h4⟩ := hc
      obtain ⟨a, rfl, ha⟩ := hx.ofAgg h1
      obtain ⟨b, rfl, hb⟩ := hy.ofAgg h2
      split at h
      · rename_i r hr
        cases h
        have he := eqAt_sound 40 hr a b ha hb 10000 w (by omega)
        simp only [vOf, h3, if_true] at he
        exact ⟨_, by simp [run_eqGuard_agg w .eql T x0 y0 a b h4, run_eql_struct w, he], rfl⟩
      · rename_i r hr
        cases h
        have he := eqAt_sound 40 hr a b ha hb 10000 w (by omega)
        simp only [vOf, h3, if_true] at he
        exact ⟨_, by simp [run_eqGuard_agg w .neq T x0 y0 a b h4, run_neq_struct w, he], rfl⟩
      · cases h
    · cases h

theorem unV_sound {P : Program} {C : Ctx} {op : UnOp} {x p : PV} {X : Value} (hx : RV P C x X) (h : unV op x = some p) (w : World) :
    ∃ v, (Op.unary op X).run P w = .ok v w ∧ p = .val v := by
  unfold unV at h
  split at h
  · cases hx; cases h; exact ⟨_, by simp [Op.unary, Op.intArith], rfl⟩
  · cases hx; cases h; exact ⟨_, by simp [Op.unary, Op.intBits, bits], rfl⟩
  · cases hx; cases h; exact ⟨_, by simp [Op.unary], rfl⟩
  · cases h

/-- Conversions of numbers and strings that make no memory. -/
def convV (P : Program) (src dst : TypeId) (x : PV) : Option PV :=
  match P.underlying src, P.underlying dst, x with
  | some _, some (.int k), .val (.int _ n) => some (.val (.int k (k.wrap n)))
  | some _, some .string, .val (.int _ n) => some (.val (.string (Utf8.encode n)))
  | some _, some .string, .val (.string s) => some (.val (.string s))
  | some _, some (.float k), .val (.int _ n) => some (.val (.float k (k.nearest n)))
  | some _, some (.int k), .val (.float s b) =>
    match (s.decode b).toInt .zero with
    | some n => if k.min ≤ n ∧ n ≤ k.max then some (.val (.int k n)) else none
    | none => none
  | _, _, _ => none
theorem convV_sound {P : Program} {C : Ctx} {src dst : TypeId} {x p : PV} {X : Value} (hx : RV P C x X) (h : convV P src dst x = some p) (w : World) :
    ∃ v, (convert src dst X).run P w = .ok v w ∧ p = .val v := by
  unfold convV at h
  split at h
  · rename_i h1 h2; cases hx; cases h; exact ⟨_, by simp [convert, run_underlying h1, run_underlying h2, Conv.intToInt], rfl⟩
  · rename_i h1 h2; cases hx; cases h; exact ⟨_, by simp [convert, run_underlying h1, run_underlying h2, Conv.intToString], rfl⟩
  · rename_i h1 h2; cases hx; cases h; exact ⟨_, by simp [convert, run_underlying h1, run_underlying h2], rfl⟩
  · rename_i h1 h2; cases hx; cases h; exact ⟨_, by simp [convert, run_underlying h1, run_underlying h2, Conv.intToFloat], rfl⟩
  · rename_i h1 h2; cases hx
    split at h
    · rename_i n hn
      split at h
      · rename_i hr; cases h; exact ⟨_, by simp only [convert, Sem.run_bind, run_underlying h1, run_underlying h2, Result.andThen_ok, Conv.floatToInt, hn]; rw [if_pos hr]; rfl, rfl⟩
      · cases h
    · cases h
  · cases h
end Go.Hx
