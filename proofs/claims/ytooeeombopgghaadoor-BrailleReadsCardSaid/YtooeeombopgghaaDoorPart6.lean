/- Braille: the base. -/
import Derived.Test.YtooeeombopgghaaDoorProg
import Derived.Test.YtooeeombopgghaaDoorHsP
import Derived.KernelRfl
import Derived.WalkKit
import Derived.Lib.OthersKept
import Derived.BigCall
import Derived.Test.YtooeeombopgghaaDoorPart3
import Derived.Test.YtooeeombopgghaaDoorPart4
import Derived.LaidEql
import Derived.LaidEqlPtr
import Derived.Stop.Asserts
import Derived.RowKitTokens
import Derived.Stop.LaidErr
namespace Go.Ht
open Go.Hx Go.Proofs
abbrev iv (n : Int) : PV := PV.val (.int .i64 n)
abbrev cv (n : Int) : PV := PV.val (.int .u8 n)
abbrev bv (b : Bool) : PV := PV.val (.bool b)
abbrev sv (s : ByteArray) : PV := PV.val (.string s)
abbrev W (n : Int) : Int := IntKind.wrap .i64 n
abbrev B8 (n : Int) : Int := IntKind.wrap .u8 n
theorem W_eq (n : Int) : W n = (n + 9223372036854775808) % 18446744073709551616 - 9223372036854775808 := by
  show (if (true && decide (n % (2 ^ 64 : Int) ≥ (2 ^ 63 : Int))) = true then n % (2 ^ 64 : Int) - (2 ^ 64 : Int) else n % (2 ^ 64 : Int)) = _
  simp only [Bool.true_and, decide_eq_true_eq]
  split <;> omega
theorem W_id {n : Int} (h1 : -9223372036854775808 ≤ n) (h2 : n < 9223372036854775808) : W n = n := by rw [W_eq]; omega
theorem B8_eq (n : Int) : B8 n = n % 256 := by
  show (if (false && decide (n % (2 ^ 8 : Int) ≥ (2 ^ 7 : Int))) = true then n % (2 ^ 8 : Int) - (2 ^ 8 : Int) else n % (2 ^ 8 : Int)) = _
  simp
noncomputable def E0 : EnvK := {}
theorem ok0 : EnvOK Tryd.prog E0.env := envOK_zero
end Go.Ht
/- Braille: Right, walked by hand: a range over a string. -/
namespace Go.Ht
open Go.Hx Go.Proofs Go.RowKit
/-- P28.1, as the range goes: from a place on. -/
def rgtF (s : ByteArray) : Nat → Nat → Bool
  | 0, _ => true
  | m + 1, pos => bif decide (pos < s.size) then bif decide ((Utf8.decode s pos).1 < 32) || decide ((Utf8.decode s pos).1 > 126) || decide ((Utf8.decode s pos).1 = 34) then false else rgtF s m (pos + (Utf8.decode s pos).2) else true
theorem width_pos (s : ByteArray) (pos : Nat) (h : pos < s.size) : 1 ≤ (Utf8.decode s pos).2 := by
  by_cases ha : (s[pos]'h).toNat < 128
  · rw [decode_ascii s pos h ha]
    exact Nat.le_refl _
  · exact (decode_high s pos h (by omega)).2
theorem rgtF_go {s : ByteArray} {pos m : Nat} (hp : pos < s.size) : rgtF s (m + 1) pos = bif decide ((Utf8.decode s pos).1 < 32) || decide ((Utf8.decode s pos).1 > 126) || decide ((Utf8.decode s pos).1 = 34) then false else rgtF s m (pos + (Utf8.decode s pos).2) := by
  rw [rgtF, decide_eq_true hp]; rfl
set_option maxHeartbeats 4000000 in
set_option maxRecDepth 1000000 in
theorem right_walk (s : ByteArray) (w : World) (R : Bool) (hR : rgtF s s.size 0 = R) : Calls Tryd.prog 13 #[.string s] w fun e w' => e = .returned (.bool R) ∧ Below w.heap.size w w' := by
  go_enter Tryd.func13, Tryd.ntmps13
  go_wp2
  go_loopw [] (fun wr => ∃ (pos fuel : Nat), wr.heap[w.heap.size]? = some (.stringIter s pos) ∧ Below w.heap.size w wr ∧ rgtF s fuel pos = R ∧ s.size - pos ≤ fuel) (fun wr => s.size - wr.iterPos w.heap.size)
  case atStart =>
    refine ⟨0, s.size, ?_, ?_, hR, by omega⟩
    · have := World.iter_heap w s 0
      simpa using this
    · exact (Below.refl _ w).alloc (Nat.le_refl _) _
  case round =>
    obtain ⟨pos, fuel, hit, hbw, hacc, hfu⟩ := hrel
    have hsz : w.heap.size < wr.heap.size := (Array.getElem?_eq_some_iff.1 hit).1
    by_cases hp : pos < s.size
    · have hnx : ∀ ty, (Instr.next (.pointer (some ⟨w.heap.size, 0, none⟩)) true ty).run Tryd.prog wr = _ := fun ty => Lib.run_next_any_at wr w.heap.size s pos ty hit hp
      have hwd := width_pos s pos hp
      have hit2 := Lib.iterAt_heap wr w.heap.size s pos (pos + (Utf8.decode s pos).2) hit
      have hbw2 := Lib.below_iterAt hbw (k := w.heap.size) (by omega) s (pos + (Utf8.decode s pos).2)
      obtain ⟨f, rfl⟩ : ∃ f, fuel = f + 1 := ⟨fuel - 1, by omega⟩
      rw [rgtF_go hp] at hacc
      by_cases h1 : ((Utf8.decode s pos).1 : Int) < 32
      · have hb : R = false := by rw [← hacc, decide_eq_true (show (Utf8.decode s pos).1 < 32 by omega)]; rfl
        clear hacc hR
        go_wp2
        go_ret
        exact ⟨by first | rfl | (rw [hb]; rfl), hbw2⟩
      · by_cases h2 : (126 : Int) < ((Utf8.decode s pos).1 : Int)
        · have hb : R = false := by rw [← hacc, decide_eq_true (show (Utf8.decode s pos).1 > 126 by omega), Bool.or_true]; rfl
          clear hacc hR
          go_wp2
          go_ret
          exact ⟨by first | rfl | (rw [hb]; rfl), hbw2⟩
        · by_cases h3 : ((Utf8.decode s pos).1 : Int) = 34
          · have hb : R = false := by rw [← hacc, decide_eq_true (show (Utf8.decode s pos).1 = 34 by omega), Bool.or_true]; rfl
            clear hacc hR
            go_wp2
            go_ret
            exact ⟨by first | rfl | (rw [hb]; rfl), hbw2⟩
          · rw [decide_eq_false (show ¬ (Utf8.decode s pos).1 < 32 by omega), decide_eq_false (show ¬ (Utf8.decode s pos).1 > 126 by omega), decide_eq_false (show ¬ (Utf8.decode s pos).1 = 34 by omega)] at hacc
            simp only [Bool.or_false, cond_false] at hacc
            go_wp2
            go_roundw
            case rel => exact ⟨pos + (Utf8.decode s pos).2, f, hit2, hbw2, hacc, by omega⟩
            case measure =>
              simp only [World.iterPos, hit2, hit]
              omega
    · have hnx : ∀ ty, (Instr.next (.pointer (some ⟨w.heap.size, 0, none⟩)) true ty).run Tryd.prog wr = _ := fun ty => Lib.run_next_end_at wr w.heap.size s pos ty hit hp
      have hb : R = true := by
        rw [← hacc]
        cases fuel with
        | zero => rfl
        | succ f => rw [rgtF, decide_eq_false hp]; rfl
      clear hacc hR
      go_wp2
      go_ret
      exact ⟨by first | rfl | (rw [hb]; rfl), hbw⟩
theorem same_of_below {w w' : World} (h : Below w.heap.size w w') : Hx.Same w w' := ⟨h.os, h.tape, h.output, h.size, h.block⟩
def rgtB (s : ByteArray) : Bool := rgtF s s.size 0
theorem pRight (s : ByteArray) : PCall Tryd.prog 13 [sv s] (bv (rgtB s)) := by
  intro C hR Vs hv
  obtain ⟨V, rfl⟩ : ∃ V, Vs = #[V] := by match Vs, hv.1 with | ⟨[V]⟩, _ => exact ⟨V, rfl⟩
  cases hv.2 0 _ _ rfl rfl
  refine (right_walk s C.w _ rfl).mono ?_
  rintro e w' ⟨rfl, hb⟩
  exact ⟨_, rfl, same_of_below hb, .val⟩
end Go.Ht
/- Braille: Right as a contract; what the machine makes of Write and Read. -/
namespace Go.Ht
open Go.Hx Go.Proofs
theorem enters_of {P : Program} {f : FuncId} {fn : Func} {b : Code} (hf : P.funcs[f]? = some fn) (hb : fn.body = some b) (hn : (fn.name == "runtime.NumGoroutine") = false) : Hx.Enters P f := by
  intro Vs w
  simp [callFunc, hf, hb]; simpa using hn
def cR : List PV → Option PV | [.val (.string s)] => some (bv (rgtB s)) | _ => none
theorem eR : Hx.Enters Tryd.prog 13 := enters_of Tryd.func13 (show Tryd.f13.body = some (bod Tryd.f13) by kernel_rfl) (by kernel_rfl)
theorem oR (args : List PV) (r : PV) (h : cR args = some r) : Hx.Enters Tryd.prog 13 ∧ PCall Tryd.prog 13 args r := by
  unfold cR at h; split at h
  · rename_i s; cases h; exact ⟨eR, pRight s⟩
  · cases h
noncomputable def E1 : EnvK := ((E0.addO 13 cR).addK 31).addK 40
theorem ok1 : EnvOK Tryd.prog E1.env := ((ok0.addO oR).addK 31).addK 40
end Go.Ht
/- Braille: errors.Is and errors.Join, walked by hand. -/
namespace Go.Ht
open Go.Hx Go.Proofs Go.RowKit Go.Extern Go.Stop
theorem isTypeOf (v : Value) (w : World) : (Extern.ReflectliteType.typeOf #[.iface 101 v]).run Tryd.prog w = .ok (.iface 92 (.agg #[.pointer (some ⟨2, 101, none⟩)])) w := by kernel_rfl
theorem isComparable (w : World) : ((Extern.ReflectliteType.method fun t => do Rtype.noPackHeld "Comparable" t; (fun a => Value.bool a.comparable) <$> typeInfo t) #[.agg #[.pointer (some ⟨2, 101, none⟩)]]).run Tryd.prog w = .ok (.bool true) w := by kernel_rfl
theorem isMethodComparable (v : Value) (w : World) : (Go.method 235 92 v "Comparable").run Tryd.prog w = .ok (77, v) w := by kernel_rfl
theorem isComp : (Tryd.prog.info? 101).map (·.comparable) = some true := by kernel_rfl
theorem isSize : (Tryd.prog.info? 125).map (·.size) = some 1 := by kernel_rfl
theorem noIsE (v : Value) (xT : TypeId) (w : World) : (Instr.typeAssert (.iface 101 v) xT 94 true).run Tryd.prog w = .ok (.tuple #[.nilIface, .bool false]) w := run_typeAssert_lacksB Tryd.underlying94 (by kernel_rfl) (by kernel_rfl) v xT w
theorem noIsJ (v : Value) (xT : TypeId) (w : World) : (Instr.typeAssert (.iface 88 v) xT 94 true).run Tryd.prog w = .ok (.tuple #[.nilIface, .bool false]) w := run_typeAssert_lacksB Tryd.underlying94 (by kernel_rfl) (by kernel_rfl) v xT w
theorem noUnwrapJ (v : Value) (xT : TypeId) (w : World) : (Instr.typeAssert (.iface 88 v) xT 97 true).run Tryd.prog w = .ok (.tuple #[.nilIface, .bool false]) w := run_typeAssert_lacksB Tryd.underlying97 (by kernel_rfl) (by kernel_rfl) v xT w
theorem hasUnwrapsJ (v : Value) (xT : TypeId) (w : World) : (Instr.typeAssert (.iface 88 v) xT 99 true).run Tryd.prog w = .ok (.tuple #[.iface 88 v, .bool true]) w := run_typeAssert_hasB Tryd.underlying99 (by kernel_rfl) v xT w
theorem methodUnwrap (v : Value) (w : World) : (Go.method 235 88 v "Unwrap").run Tryd.prog w = .ok (73, v) w := by kernel_rfl
set_option maxHeartbeats 4000000 in
set_option maxRecDepth 1000000 in
theorem is_same (a : Addr) (w : World) :
    Calls Tryd.prog 39 #[.iface 101 (.pointer (some a)), .iface 101 (.pointer (some a))] w fun e w' => e = .returned (.bool true) ∧ w' = w := by
  obtain ⟨i, hi, hcmp⟩ := Option.map_eq_some_iff.1 isComp
  obtain ⟨j, hj, hjs⟩ := Option.map_eq_some_iff.1 isSize
  have h8 := @run_callFunc_extern Tryd.prog 50 _ Extern.ReflectliteType.typeOf Tryd.func50 (by kernel_rfl) (by kernel_rfl) (by kernel_rfl) (by kernel_rfl)
  have h32 := @run_callFunc_extern Tryd.prog 77 _ (Extern.ReflectliteType.method fun t => do Rtype.noPackHeld "Comparable" t; pure (.bool (← typeInfo t).comparable)) Tryd.func77 (by kernel_rfl) (by kernel_rfl) (by kernel_rfl) (by kernel_rfl)
  have tT := isTypeOf
  have cT := isComparable
  have mR := isMethodComparable
  have heq := run_eql_iface_ptr_same (P := Tryd.prog) w a Tryd.underlying57 Tryd.underlying101 hi hcmp hj
  go_enter Tryd.func39, Tryd.ntmps39
  go_wp2
  refine wp_loop_rounds 1 ?_
  rw [rounds_succ]
  go_wp2
  go_ret
  exact ⟨rfl, rfl⟩
set_option maxHeartbeats 4000000 in
set_option maxRecDepth 1000000 in
theorem is_in_same (a : Addr) (w : World) :
    Calls Tryd.prog 51 #[.iface 101 (.pointer (some a)), .iface 101 (.pointer (some a)), .bool true] w fun e w' => e = .returned (.bool true) ∧ w' = w := by
  obtain ⟨i, hi, hcmp⟩ := Option.map_eq_some_iff.1 isComp
  obtain ⟨j, hj, hjs⟩ := Option.map_eq_some_iff.1 isSize
  have heq := run_eql_iface_ptr_same (P := Tryd.prog) w a Tryd.underlying57 Tryd.underlying101 hi hcmp hj
  go_enter Tryd.func51, Tryd.ntmps51
  go_wp2
  refine wp_loop_rounds 1 ?_
  rw [rounds_succ]
  go_wp2
  go_ret
  exact ⟨rfl, rfl⟩
end Go.Ht
/- Braille: errors.Is of what errors.Join made, walked by hand. -/
namespace Go.Ht
open Go.Hx Go.Proofs Go.RowKit Go.Extern Go.Stop
set_option maxHeartbeats 4000000 in
set_option maxRecDepth 1000000 in
theorem unwrap_walk (b s n c : Nat) (w : World) (hb : w.cell? ⟨b, 0, none⟩ = some (.slice (some ⟨s, 0, none⟩) (n + 1) c)) :
    Calls Tryd.prog 73 #[.pointer (some ⟨b, 0, none⟩)] w fun e w' => e = .returned (.slice (some ⟨s, 0, none⟩) (n + 1) c) ∧ w' = w := by
  go_enter Tryd.func73, Tryd.ntmps73
  go_wp2
  go_ret
  exact ⟨rfl, rfl⟩
theorem run_eql_iface_types {P : Program} {ti tx ty : TypeId} {ms : Array (String × TypeId)} {vx vy : Value} (w : World) (hi : P.underlying ti = some (.interface ms)) (hne : tx ≠ ty) :
    (binOp .eql ti (.iface tx vx) (.iface ty vy)).run P w = .ok (.bool false) w :=
  run_eql_of w rfl (fun d => by simp [Op.equalIn, run_underlying hi, hne])
set_option maxHeartbeats 4000000 in
set_option maxRecDepth 1000000 in
theorem is_in_join (b s n c : Nat) (a : Addr) (w : World) (hb : w.cell? ⟨b, 0, none⟩ = some (.slice (some ⟨s, 0, none⟩) (n + 1) c)) (hs : w.cell? ⟨s, 0, none⟩ = some (.iface 101 (.pointer (some a)))) :
    Calls Tryd.prog 51 #[.iface 88 (.pointer (some ⟨b, 0, none⟩)), .iface 101 (.pointer (some a)), .bool true] w fun e w' => e = .returned (.bool true) ∧ w' = w := by
  have heq := run_eql_iface_types (P := Tryd.prog) (tx := 88) (ty := 101) (vx := .pointer (some ⟨b, 0, none⟩)) (vy := .pointer (some a)) w Tryd.underlying57 (by decide)
  have nJ := noIsJ
  have uJ := noUnwrapJ
  have hJ := hasUnwrapsJ
  have mU := methodUnwrap
  go_enter Tryd.func51, Tryd.ntmps51
  go_wp2
  refine wp_loop_rounds 1 ?_
  rw [rounds_succ]
  go_wp2_with (go_at_call 73; refine (unwrap_walk b s n c _ hb).mono ?_)
  rintro e w' ⟨rfl, rfl⟩
  go_wp2
  refine wp_loop_rounds 1 ?_
  rw [rounds_succ]
  go_wp2_with (go_at_call 51; refine (is_in_same a _).mono ?_)
  rintro e w' ⟨rfl, rfl⟩
  go_wp2
  go_ret
  exact ⟨rfl, rfl⟩
set_option maxHeartbeats 4000000 in
set_option maxRecDepth 1000000 in
theorem is_join (b s n c : Nat) (a : Addr) (w : World) (hb : w.cell? ⟨b, 0, none⟩ = some (.slice (some ⟨s, 0, none⟩) (n + 1) c)) (hs : w.cell? ⟨s, 0, none⟩ = some (.iface 101 (.pointer (some a)))) :
    Calls Tryd.prog 39 #[.iface 88 (.pointer (some ⟨b, 0, none⟩)), .iface 101 (.pointer (some a))] w fun e w' => e = .returned (.bool true) ∧ w' = w := by
  have h8 := @run_callFunc_extern Tryd.prog 50 _ Extern.ReflectliteType.typeOf Tryd.func50 (by kernel_rfl) (by kernel_rfl) (by kernel_rfl) (by kernel_rfl)
  have h32 := @run_callFunc_extern Tryd.prog 77 _ (Extern.ReflectliteType.method fun t => do Rtype.noPackHeld "Comparable" t; pure (.bool (← typeInfo t).comparable)) Tryd.func77 (by kernel_rfl) (by kernel_rfl) (by kernel_rfl) (by kernel_rfl)
  have tT := isTypeOf
  have cT := isComparable
  have mR := isMethodComparable
  go_enter Tryd.func39, Tryd.ntmps39
  go_wp2_with (go_at_call 51; refine (is_in_join b s n c a _ hb hs).mono ?_)
  rintro e w' ⟨rfl, rfl⟩
  go_wp2
  go_ret
  exact ⟨rfl, rfl⟩
end Go.Ht
/- Braille: errors.Join of two, walked by hand. -/
namespace Go.Ht
open Go.Hx Go.Proofs Go.RowKit Go.Extern Go.Stop
theorem mk1 (w : World) : (Instr.makeSlice 87 (.int .i64 0) (.int .i64 1)).run Tryd.prog w = .ok (.slice (some ⟨w.heap.size, 0, none⟩) 0 1) (w.alloc (.cells #[.nilIface] 57)) := by kernel_rfl
theorem mk2 (w : World) : (Instr.makeSlice 87 (.int .i64 0) (.int .i64 2)).run Tryd.prog w = .ok (.slice (some ⟨w.heap.size, 0, none⟩) 0 2) (w.alloc (.cells #[.nilIface, .nilIface] 57)) := by kernel_rfl
theorem cell_alloc {w : World} {o : Obj} {b x : Nat} {v : Value} (h : w.cell? ⟨b, x, none⟩ = some v) : (w.alloc o).cell? ⟨b, x, none⟩ = some v := by
  simp only [World.cell?] at h ⊢
  split at h
  · rename_i c e fr hb
    rw [Go.heap_alloc_old w o (Array.getElem?_eq_some_iff.1 hb).1, hb]
    exact h
  · cases h
set_option maxHeartbeats 4000000 in
set_option maxRecDepth 1000000 in
theorem join_nn (b0 cap : Nat) (w : World) (hp : w.cell? ⟨b0, 0, none⟩ = some .nilIface) (hq : w.cell? ⟨b0, 1, none⟩ = some .nilIface) :
    Calls Tryd.prog 49 #[.slice (some ⟨b0, 0, none⟩) 2 cap] w fun e w' => e = .returned .nilIface ∧ w' = w := by
  go_enter Tryd.func49, Tryd.ntmps49
  go_wp2
  refine wp_loop_rounds 3 ?_
  rw [rounds_succ]
  go_wp2
  rw [rounds_succ]
  go_wp2
  rw [rounds_succ]
  go_wp2
  go_ret
  exact ⟨rfl, rfl⟩
theorem neq_nil (v : Value) (w : World) : (binOp .neq 57 (.iface 101 v) .nilIface).run Tryd.prog w = .ok (.bool true) w := run_neq_of (P := Tryd.prog) (T := 57) (X := .iface 101 v) (Y := .nilIface) (r := false) w rfl (fun d => by simp [Op.equalIn, run_underlying Tryd.underlying57])
/-- What Join of two comes to, if one of them is an error. -/
def JoinTo (w : World) (a : Addr) (e : Ending) (w' : World) : Prop := Below w.heap.size w w' ∧ ∃ b s n c, e = .returned (.iface 88 (.pointer (some ⟨b, 0, none⟩))) ∧ w.heap.size ≤ b ∧ w.heap.size ≤ s ∧
      w'.cell? ⟨b, 0, none⟩ = some (.slice (some ⟨s, 0, none⟩) (n + 1) c) ∧ w'.cell? ⟨s, 0, none⟩ = some (.iface 101 (.pointer (some a)))
theorem cell_new (w : World) (c : Array Value) (t : TypeId) (k x : Nat) (hk : k = w.heap.size) : (w.alloc (.cells c t)).cell? ⟨k, x, none⟩ = c[x]? := by
  subst hk
  simp only [World.cell?, heap_alloc_new]
  simp
theorem joinTo2 (w : World) (a : Addr) (c1 : Array Value) (n c : Nat) (h : c1[0]? = some (.iface 101 (.pointer (some a)))) :
    JoinTo w a (.returned (.iface 88 (.pointer (some ⟨w.heap.size + 1, 0, none⟩)))) ((w.alloc (.cells c1 57)).alloc (.cells #[.slice (some ⟨w.heap.size, 0, none⟩) (n + 1) c] 90)) :=
  ⟨((Below.refl _ w).alloc (Nat.le_refl _) _).alloc (by simp) _, _, _, n, c, rfl, Nat.le_succ _, Nat.le_refl _, by rw [cell_new _ _ _ _ _ (by simp)]; rfl, cell_alloc (by rw [cell_new _ _ _ _ _ rfl]; exact h)⟩
theorem JoinTo.alloc {w w' : World} {a : Addr} {e : Ending} (h : JoinTo w a e w') (o : Obj) : JoinTo w a e (w'.alloc o) := by
  obtain ⟨h1, b, s, n, c, h2, h3, h4, h5, h6⟩ := h
  exact ⟨h1.alloc h1.size _, b, s, n, c, h2, h3, h4, cell_alloc h5, cell_alloc h6⟩
set_option maxHeartbeats 4000000 in
set_option maxRecDepth 1000000 in
theorem join_en (b0 cap : Nat) (a : Addr) (w : World) (hp : w.cell? ⟨b0, 0, none⟩ = some (.iface 101 (.pointer (some a)))) (hq : w.cell? ⟨b0, 1, none⟩ = some .nilIface) :
    Calls Tryd.prog 49 #[.slice (some ⟨b0, 0, none⟩) 2 cap] w fun e w' => JoinTo w a e w' := by
  have hne := neq_nil
  have hmk := mk1
  have hp2 := cell_alloc (o := .cells #[.slice (some ⟨w.heap.size, 0, none⟩) 0 1] 90) (cell_alloc (o := .cells #[.nilIface] 57) hp)
  have hq2 := cell_alloc (o := .cells #[.slice (some ⟨w.heap.size, 0, none⟩) 0 1] 90) (cell_alloc (o := .cells #[.nilIface] 57) hq)
  have hq3 := cell_alloc (o := .cells #[Value.iface 101 (.pointer (some a))] 57) (cell_alloc (o := .cells #[.slice (some ⟨w.heap.size, 0, none⟩) 1 1] 90) (cell_alloc (o := .cells #[Value.iface 101 (.pointer (some a))] 57) hq))
  go_enter Tryd.func49, Tryd.ntmps49
  go_wp2
  refine wp_loop_rounds 3 ?_
  rw [rounds_succ]
  go_wp2
  rw [rounds_succ]
  go_wp2
  rw [rounds_succ]
  go_wp2
  refine wp_loop_rounds 3 ?_
  rw [rounds_succ]
  go_wp2
  rw [rounds_succ]
  go_wp2
  rw [rounds_succ]
  go_wp2
  go_ret
  exact (joinTo2 w a _ 0 1 rfl).alloc _
set_option maxHeartbeats 4000000 in
set_option maxRecDepth 1000000 in
theorem join_ne (b0 cap : Nat) (a : Addr) (w : World) (hp : w.cell? ⟨b0, 0, none⟩ = some .nilIface) (hq : w.cell? ⟨b0, 1, none⟩ = some (.iface 101 (.pointer (some a)))) :
    Calls Tryd.prog 49 #[.slice (some ⟨b0, 0, none⟩) 2 cap] w fun e w' => JoinTo w a e w' := by
  have hne := neq_nil
  have hmk := mk1
  have hp2 := cell_alloc (o := .cells #[.slice (some ⟨w.heap.size, 0, none⟩) 0 1] 90) (cell_alloc (o := .cells #[.nilIface] 57) hp)
  have hq2 := cell_alloc (o := .cells #[.slice (some ⟨w.heap.size, 0, none⟩) 0 1] 90) (cell_alloc (o := .cells #[.nilIface] 57) hq)
  go_enter Tryd.func49, Tryd.ntmps49
  go_wp2
  refine wp_loop_rounds 3 ?_
  rw [rounds_succ]
  go_wp2
  rw [rounds_succ]
  go_wp2
  rw [rounds_succ]
  go_wp2
  refine wp_loop_rounds 3 ?_
  rw [rounds_succ]
  go_wp2
  rw [rounds_succ]
  go_wp2
  rw [rounds_succ]
  go_wp2
  go_ret
  exact (joinTo2 w a _ 0 1 rfl).alloc _
set_option maxHeartbeats 4000000 in
set_option maxRecDepth 1000000 in
theorem join_ee (b0 cap : Nat) (a : Addr) (w : World) (hp : w.cell? ⟨b0, 0, none⟩ = some (.iface 101 (.pointer (some a)))) (hq : w.cell? ⟨b0, 1, none⟩ = some (.iface 101 (.pointer (some a)))) :
    Calls Tryd.prog 49 #[.slice (some ⟨b0, 0, none⟩) 2 cap] w fun e w' => JoinTo w a e w' := by
  have hne := neq_nil
  have hmk := mk2
  have hp2 := cell_alloc (o := .cells #[.slice (some ⟨w.heap.size, 0, none⟩) 0 2] 90) (cell_alloc (o := .cells #[.nilIface, .nilIface] 57) hp)
  have hq2 := cell_alloc (o := .cells #[.slice (some ⟨w.heap.size, 0, none⟩) 0 2] 90) (cell_alloc (o := .cells #[.nilIface, .nilIface] 57) hq)
  have hq3 := cell_alloc (o := .cells #[Value.iface 101 (.pointer (some a))] 57) (cell_alloc (o := .cells #[.slice (some ⟨w.heap.size, 0, none⟩) 1 2] 90) (cell_alloc (o := .cells #[Value.iface 101 (.pointer (some a)), .nilIface] 57) hq))
  go_enter Tryd.func49, Tryd.ntmps49
  go_wp2
  refine wp_loop_rounds 3 ?_
  rw [rounds_succ]
  go_wp2
  rw [rounds_succ]
  go_wp2
  rw [rounds_succ]
  go_wp2
  refine wp_loop_rounds 3 ?_
  rw [rounds_succ]
  go_wp2
  rw [rounds_succ]
  go_wp2
  rw [rounds_succ]
  go_wp2
  go_ret
  exact ((joinTo2 w a _ 1 2 rfl).alloc _).alloc _
end Go.Ht
/- Braille: errors.Is and errors.Join as contracts. -/
namespace Go.Ht
open Go.Hx Go.Proofs
theorem star1 : "*" ++ "errors.errorString" = "*errors.errorString" := by decide
theorem star2 : "*" ++ "errors.joinError" = "*errors.joinError" := by decide
theorem err_101 {t : TypeId} (h : Tryd.prog.typeName? 3 t = some "*errors.errorString") : t = 101 :=
  typeName_ptr_named (nm := "errors.errorString") (by rw [star1]; kernel_rfl) (by kernel_rfl) (by decide) t (by rw [star1]; exact h)
theorem join_88 {t : TypeId} (h : Tryd.prog.typeName? 3 t = some "*errors.joinError") : t = 88 :=
  typeName_ptr_named (nm := "errors.joinError") (by rw [star2]; kernel_rfl) (by kernel_rfl) (by decide) t (by rw [star2]; exact h)
theorem nm_88 : Tryd.prog.typeName? 3 88 = some "*errors.joinError" := by kernel_rfl
theorem laid0 : isLaid Tryd.prog 0 = true := by kernel_rfl
/-- What the variable holds. -/
theorem gv_at {C : Ctx} (hR : RH Tryd.prog C) : ∃ a, C.w.cell? ⟨0, 0, none⟩ = some (.iface 101 (.pointer (some a))) := by
  obtain ⟨_, _, t, a, h1, h2⟩ := hR.glb 0 laid0
  rw [err_101 h2] at h1
  exact ⟨a, h1⟩
def cIs : List PV → Option PV
  | [.val .nilIface, .gv 0] => some (bv false)
  | [.gv 0, .gv 0] => some (bv true)
  | [.bad 0, .gv 0] => some (bv true)
  | _ => none
theorem eIs : Hx.Enters Tryd.prog 39 := enters_of Tryd.func39 (show Tryd.f39.body = some (bod Tryd.f39) by kernel_rfl) (by kernel_rfl)
theorem eJoin : Hx.Enters Tryd.prog 49 := enters_of Tryd.func49 (show Tryd.f49.body = some (bod Tryd.f49) by kernel_rfl) (by kernel_rfl)
set_option maxHeartbeats 4000000 in
set_option maxRecDepth 1000000 in
theorem is_nil (b : Addr) (w : World) : Calls Tryd.prog 39 #[.nilIface, .iface 101 (.pointer (some b))] w fun e w' => e = .returned (.bool false) ∧ w' = w := by
  have hn := run_eql_iface_nil_left (P := Tryd.prog) w 101 (.pointer (some b)) Tryd.underlying57
  go_enter Tryd.func39, Tryd.ntmps39
  go_wp2
  go_ret
  exact ⟨rfl, rfl⟩
theorem two_args {P : Program} {C : Ctx} {p q : PV} {Vs : Array Value} (hv : Cs P C [p, q] Vs) : ∃ V U, Vs = #[V, U] ∧ RV P C p V ∧ RV P C q U := by
  obtain ⟨V, U, rfl⟩ : ∃ V U, Vs = #[V, U] := by match Vs, hv.1 with | ⟨[V, U]⟩, _ => exact ⟨V, U, rfl⟩
  exact ⟨V, U, rfl, hv.2 0 _ _ rfl rfl, hv.2 1 _ _ rfl rfl⟩
theorem gv_val {C : Ctx} {a : Addr} (ha : C.w.cell? ⟨0, 0, none⟩ = some (.iface 101 (.pointer (some a)))) {V : Value} (h : RV Tryd.prog C (.gv 0) V) : V = .iface 101 (.pointer (some a)) := by
  cases h with
  | gv _ _ hc _ => exact Option.some.inj (hc.symm.trans ha)
theorem oIs (args : List PV) (r : PV) (h : cIs args = some r) : Hx.Enters Tryd.prog 39 ∧ PCall Tryd.prog 39 args r := by
  refine ⟨eIs, ?_⟩
  intro C hR Vs hv
  obtain ⟨a, ha⟩ := gv_at hR
  have same : ∀ w', w' = C.w → Hx.Same C.w w' := fun w' e => by subst e; exact Hx.Same.refl _
  unfold cIs at h
  split at h
  · cases h
    obtain ⟨V, U, rfl, h1, h2⟩ := two_args hv
    cases h1
    obtain rfl := gv_val ha h2
    refine (is_nil a C.w).mono ?_
    rintro e w' ⟨rfl, h⟩
    exact ⟨_, rfl, same _ h, .val⟩
  · cases h
    obtain ⟨V, U, rfl, h1, h2⟩ := two_args hv
    obtain rfl := gv_val ha h1
    obtain rfl := gv_val ha h2
    refine (is_same a C.w).mono ?_
    rintro e w' ⟨rfl, h⟩
    exact ⟨_, rfl, same _ h, .val⟩
  · cases h
    obtain ⟨V, U, rfl, h1, h2⟩ := two_args hv
    obtain rfl := gv_val ha h2
    cases h1 with
    | bad hb =>
      obtain ⟨T, b, s, n, c, v0, rfl, hT, ⟨_, _, g1⟩, ⟨_, _, g2⟩, ⟨_, _, g3⟩⟩ := hb
      obtain rfl := join_88 hT
      rw [ha] at g3
      cases g3
      refine (is_join b s n c a C.w g1 g2).mono ?_
      rintro e w' ⟨rfl, h⟩
      exact ⟨_, rfl, same _ h, .val⟩
  · cases h
/-- Join of two errors. -/
def cJoin : List PV → List Row → Option (DT PV)
  | [.sl 0 2 0 2], [⟨[.val .nilIface, .val .nilIface], 1, 57, _, true, false, none, _⟩] => some (.leaf (.val .nilIface))
  | [.sl 0 2 0 2], [⟨[.gv 0, .val .nilIface], 1, 57, _, true, false, none, _⟩] => some (.leaf (.bad 0))
  | [.sl 0 2 0 2], [⟨[.val .nilIface, .gv 0], 1, 57, _, true, false, none, _⟩] => some (.leaf (.bad 0))
  | [.sl 0 2 0 2], [⟨[.gv 0, .gv 0], 1, 57, _, true, false, none, _⟩] => some (.leaf (.bad 0))
  | _, _ => none
theorem join_arg {C : Ctx} {p q : PV} {bv0 fz0 : Bool} {Vs : Array Value} (hR : RH Tryd.prog C) (hH : C.H = [⟨[p, q], 1, 57, bv0, true, false, none, fz0⟩]) (hv : Cs Tryd.prog C [.sl 0 2 0 2] Vs) (hp : p.cells = [p]) (hq : q.cells = [q]) :
    ∃ b cap v u, Vs = #[.slice (some ⟨b, 0, none⟩) 2 cap] ∧ C.w.cell? ⟨b, 0, none⟩ = some v ∧ C.w.cell? ⟨b, 1, none⟩ = some u ∧ RV Tryd.prog C p v ∧ RV Tryd.prog C q u := by
  obtain ⟨V, rfl⟩ : ∃ V, Vs = #[V] := by match Vs, hv.1 with | ⟨[V]⟩, _ => exact ⟨V, rfl⟩
  have hrow : C.row? 0 = some ⟨[p, q], 1, 57, bv0, true, false, none, fz0⟩ := by unfold Ctx.row?; rw [hH]; rfl
  have h0 := hv.2 0 _ _ rfl rfl
  cases h0 with
  | sl hV hi hle hh =>
    obtain ⟨_, a, cap, rfl, _, hsl⟩ := hh _ hrow rfl
    unfold SlAt at hsl
    rw [if_neg (by simp)] at hsl
    obtain ⟨b, hb, rfl, _⟩ := hsl
    have hB := hR.blk 0 b _ hb hrow
    obtain ⟨c, fr, cv, m1, m2, m3, m4⟩ := hB.mem
    have g0 := m4 0 p 0 p rfl (by rw [hp]; rfl)
    have g1 := m4 1 q 0 q rfl (by rw [hq]; rfl)
    exact ⟨b, cap, _, _, rfl, by rw [cell_row m1]; exact g0.1, by rw [cell_row m1]; exact g1.1, g0.2, g1.2⟩
theorem join_res {C : Ctx} (hR : RH Tryd.prog C) {a : Addr} (ha : C.w.cell? ⟨0, 0, none⟩ = some (.iface 101 (.pointer (some a)))) {H : List Row} (hH : C.H = H) {e : Ending} {w' : World} (h : JoinTo C.w a e w') :
    ∃ V C', e = .returned V ∧ C'.w = w' ∧ CallTo Tryd.prog C C' H (.bad 0) V := by
  obtain ⟨h1, b, s, n, c, rfl, h3, h4, h5, h6⟩ := h
  have hs := same_of_below h1
  obtain ⟨g1, g2, _⟩ := hR.glb 0 laid0
  have hban : ∀ x, C.w.heap.size ≤ x → ¬ (C.at w').ban x := by
    intro x hx hb
    rcases hb with ⟨i, hi⟩ | hf
    · exact absurd (hR.lt (i := i) hi) (by omega)
    · exact absurd (hR.fol x hf) (by omega)
  have hlt : ∀ x v, w'.cell? ⟨x, 0, none⟩ = some v → x < w'.heap.size := by
    intro x v hx
    simp only [World.cell?] at hx
    split at hx
    · rename_i hb; exact (Array.getElem?_eq_some_iff.1 hb).1
    · cases hx
  refine ⟨_, C.at w', rfl, rfl, hH, hs.ext, hs.rh hR, .bad ⟨88, b, s, n, c, _, rfl, nm_88, ⟨hban b h3, hlt _ _ h5, h5⟩, ⟨hban s h4, hlt _ _ h6, h6⟩, ⟨g1, Nat.lt_of_lt_of_le g2 hs.size, ?_⟩⟩⟩
  have : (C.at w').w.cell? ⟨0, 0, none⟩ = C.w.cell? ⟨0, 0, none⟩ := hs.ext.cell g1 g2 0
  rw [this]; exact ha
theorem oJoin (args : List PV) (H : List Row) (d : DT PV) (r : PV) (h : cJoin args H = some d) (hr : d.run = some r) : RCall Tryd.prog H.length 49 args H r H := by
  intro C hH hro hR Vs hv
  obtain ⟨a, ha⟩ := gv_at hR
  unfold cJoin at h
  split at h
  · cases h; cases hr
    obtain ⟨b, cap, v, u, rfl, h1, h2, h3, h4⟩ := join_arg hR hH hv rfl rfl
    cases h3; cases h4
    refine (join_nn b cap C.w h1 h2).mono ?_
    rintro e w' ⟨rfl, rfl⟩
    exact ⟨_, C, rfl, rfl, hH, .refl C, hR, .val⟩
  · cases h; cases hr
    obtain ⟨b, cap, v, u, rfl, h1, h2, h3, h4⟩ := join_arg hR hH hv rfl rfl
    obtain rfl := gv_val ha h3
    cases h4
    exact (join_en b cap a C.w h1 h2).mono fun e w' h => join_res hR ha hH h
  · cases h; cases hr
    obtain ⟨b, cap, v, u, rfl, h1, h2, h3, h4⟩ := join_arg hR hH hv rfl rfl
    cases h3
    obtain rfl := gv_val ha h4
    exact (join_ne b cap a C.w h1 h2).mono fun e w' h => join_res hR ha hH h
  · cases h; cases hr
    obtain ⟨b, cap, v, u, rfl, h1, h2, h3, h4⟩ := join_arg hR hH hv rfl rfl
    obtain rfl := gv_val ha h3
    obtain rfl := gv_val ha h4
    exact (join_ee b cap a C.w h1 h2).mono fun e w' h => join_res hR ha hH h
  · cases h
noncomputable def E2 : EnvK := (((((E1.addO 39 cIs).addRE 49 cJoin).addK 38).addK 48).addK 34)
theorem ok2 : EnvOK Tryd.prog E2.env := (((((ok1.addO oIs).addRE eJoin oJoin).addK 38).addK 48).addK 34)
end Go.Ht
/- Braille: prefixes; the first word that a text begins with at a place. -/
namespace Go.Ht
open Go.Hx Go.Proofs
/-- A text begins with another one. -/
def hasP (s p : ByteArray) : Bool := decide ((s.size : Int) ≥ (p.size : Int)) && ((s.extract 0 (p.size : Int).toNat).toList == p.toList)
theorem qHP (s p : ByteArray) : runP Tryd.prog E2 20 30 [sv s, sv p] = bif decide ((s.size : Int) ≥ (p.size : Int)) then
  bif decide ((0 : Int) ≤ 0) && decide (0 ≤ (p.size : Int)) && decide ((p.size : Int) ≤ (s.size : Int)) then some (bv ((s.extract 0 (p.size : Int).toNat).toList == p.toList)) else none else some (bv false) := by kernel_rfl
def cHP : List PV → Option PV | [.val (.string s), .val (.string p)] => some (bv (hasP s p)) | _ => none
theorem oHP (args : List PV) (r : PV) (h : cHP args = some r) : Hx.Enters Tryd.prog 30 ∧ PCall Tryd.prog 30 args r := by
  unfold cHP at h; split at h
  · rename_i s p; cases h
    refine runP_sound ok2 (n := 20) ?_
    rw [qHP]
    unfold hasP
    by_cases h1 : (s.size : Int) ≥ (p.size : Int)
    · rw [decide_eq_true h1, decide_eq_true (show (0 : Int) ≤ (p.size : Int) by omega)]; rfl
    · rw [decide_eq_false h1]; rfl
  · cases h
noncomputable def E3 : EnvK := E2.addO 30 cHP
theorem ok3 : EnvOK Tryd.prog E3.env := ok2.addO oHP
def b8 (l : List Nat) : ByteArray := ⟨(l.map UInt8.ofNat).toArray⟩
/-- The words that have a sign of their own. -/
def wds : List ByteArray := [b8 [119, 105, 116, 104], b8 [116, 104, 101], b8 [97, 110, 100], b8 [102, 111, 114], b8 [105, 110, 103], b8 [111, 102], b8 [99, 104], b8 [115, 104], b8 [116, 104], b8 [115, 116], b8 [101, 114]]
abbrev rwS (t : ByteArray) : Row := ⟨[sv t], 1, 9, true, true, false, none, false⟩
abbrev rwI (i : Int) : Row := ⟨[iv i], 1, 3, true, true, false, none, false⟩
def wdL : List PV := wds.map sv

def tlB (t : ByteArray) (i : Int) : ByteArray := t.extract i.toNat (t.size : Int).toNat
def ixOk (t : ByteArray) (i : Int) : Bool := decide (0 ≤ i) && decide (i ≤ (t.size : Int)) && decide ((t.size : Int) ≤ (t.size : Int))
def ixT (ok : Bool) (s : ByteArray) : Int → List ByteArray → Option PV
  | _, [] => some (iv (-1))
  | n, w :: ws => bif ok then (bif hasP s w then some (iv n) else ixT ok s (n + 1) ws) else none
/-- The first of the words that a text begins with. -/
def ixW (s : ByteArray) : Int → List ByteArray → Int
  | _, [] => -1
  | n, w :: ws => bif hasP s w then n else ixW s (n + 1) ws
theorem ixT_eq (s : ByteArray) : ∀ (n : Int) (l : List ByteArray), ixT true s n l = some (iv (ixW s n l))
  | _, [] => rfl
  | n, w :: ws => by
    rw [ixT, ixW, cond_true, ixT_eq s (n + 1) ws]
    cases hasP s w <;> rfl
set_option maxRecDepth 100000 in
theorem qIx (fl : Bool) (t : ByteArray) (i : Int) : runSE Tryd.prog E3 60 27 [.lst fl 9 wdL, .fn (.func 29) [] [.ptr 0 1 0 0, .ptr 1 1 0 0]] [rwS t, rwI i] = ixT (ixOk t i) (tlB t i) 0 wds := by kernel_rfl
def eqS : List PV → List ByteArray → Bool
  | .val (.string s) :: ps, w :: ws => (s.data.toList == w.data.toList) && eqS ps ws
  | [], [] => true
  | _, _ => false
theorem eqS_eq : ∀ {ps : List PV} {ws : List ByteArray}, eqS ps ws = true → ps = ws.map sv
  | ps, ws, h => by
    unfold eqS at h
    split at h
    · rename_i s ps w ws
      rw [Bool.and_eq_true, beq_iff_eq] at h
      have e : s = w := by
        cases s; cases w
        exact congrArg _ (Array.ext' h.1)
      rw [List.map_cons, ← eqS_eq h.2, e]
    · rfl
    · cases h
def cIx : List PV → List Row → Option (DT PV)
  | [.lst _ 9 l, .fn (.func 29) [] [.ptr 0 1 0 0, .ptr 1 1 0 0]], [⟨[.val (.string t)], 1, 9, true, true, false, none, false⟩, ⟨[.val (.int .i64 i)], 1, 3, true, true, false, none, false⟩] =>
    some (.br (eqS l wds && ixOk t i) (.leaf (iv (ixW (tlB t i) 0 wds))) .no)
  | _, _ => none
theorem eIx : Hx.Enters Tryd.prog 27 := enters_of Tryd.func27 (show Tryd.f27.body = some (bod Tryd.f27) by kernel_rfl) (by kernel_rfl)
theorem oIx (args : List PV) (H : List Row) (d : DT PV) (r : PV) (h : cIx args H = some d) (hr : d.run = some r) : RCall Tryd.prog H.length 27 args H r H := by
  unfold cIx at h
  split at h
  · rename_i fl l t i
    cases h
    obtain ⟨h1, rfl⟩ := run_br hr
    rw [Bool.and_eq_true] at h1
    obtain rfl := eqS_eq h1.1
    refine (runSE_sound ok3 (n := 60) ?_).2
    rw [show wds.map sv = wdL from rfl, qIx, h1.2, ixT_eq]
  · cases h
noncomputable def E4 : EnvK := (E3.addRE 27 cIx).addN 11 5 [(1101, 5, 1)]
theorem ok4 : EnvOK Tryd.prog E4.env := (ok3.addRE eIx oIx).addN 11 5 [(1101, 5, 1)]
end Go.Ht
/- Braille: the round of Write's loop as a plain function. -/
namespace Go.Ht
open Go.Hx Go.Proofs
def dgB (n : Int) : Bool := decide (48 ≤ n) && decide (n ≤ 57)
def cDg : List PV → Option PV | [.val (.int .u8 n)] => some (bv (dgB n)) | _ => none
abbrev rwD : Row := { es := [], s := 0, t := 0, bv := true, live := false }
/-- The state at the head of Write's loop: slots and rows. -/
def wS : List PV := [.any, .ptr 0 1 0 0, .any, .any, .ptr 1 1 0 0, .ptr 4 1 0 0] ++ List.replicate 101 .any
def wX : List PV := [.any, .any, .any, .any, .ptr 1 1 0 0, .any] ++ List.replicate 101 .any
abbrev wH (t : ByteArray) (n : Nat) (es : List PV) : List Row := [rwS t, ⟨[.agg [.ptr 1 1 0 0, .sl 3 n 0 n]], 2, 53, false, true, false, none, false⟩, rwD, ⟨es, 1, 5, true, true, false, none, false⟩]
abbrev RR := Option (PX × List PV × List Row)
/-- A byte is written. -/
def wr (n : Nat) (es : List PV) (c : Int) (k : Nat → List PV → RR) : RR :=
  bif decide (es.length = n) && decide (n = n) && decide ((n + 1) * 1 ≤ 140737488355328) then k (n + 1) (es ++ [cv c]) else none
def ltB : ByteArray := b8 [1, 3, 9, 25, 17, 11, 27, 19, 10, 26, 5, 7, 13, 29, 21, 15, 31, 23, 14, 30, 37, 39, 58, 45, 61, 53]
def gt (s : ByteArray) (z : Int) : Int := ((s.data.getD z.toNat 0).toNat : Int)
def gtK (s : ByteArray) (z : Int) (k : Int → RR) : RR := bif decide (0 ≤ z) && decide (z < (s.size : Int)) then k (gt s z) else none
def sgB : ByteArray := b8 [32, 44, 39, 45, 46]
def ixB (c : Int) : Int := match (List.range sgB.size).find? fun i => sgB[i]! == c.toNat.toUInt8 with | some i => (i : Int) | none => -1
/-- What is written for one character. -/
def clsU (sc : ByteArray) (c : Int) (d : Bool) (n : Nat) (es : List PV) (k : Nat → List PV → RR) : RR :=
  bif dgB c then
    bif !d then wr n es 60 fun n es => gtK ltB ((B8 (B8 (c - 48) + 9)).tmod 10) fun z => wr n es z k
    else gtK ltB ((B8 (B8 (c - 48) + 9)).tmod 10) fun z => wr n es z k
  else bif decide (ixB c ≥ 0) then gtK sc (ixB c) fun z => wr n es z k
  else wr n es 8 fun n es => gtK ltB (B8 (c.tdiv 16)) fun z => wr n es z fun n es => gtK ltB (c.tmod 16) fun z => wr n es z k
def clsN (sc : ByteArray) (c : Int) (d : Bool) (n : Nat) (es : List PV) (k : Nat → List PV → RR) : RR :=
  bif decide (65 ≤ c) then (bif decide (c ≤ 90) then wr n es 32 fun n es => gtK ltB (B8 (c - 65)) fun z => wr n es z k else clsU sc c d n es k) else clsU sc c d n es k
def cls (sc : ByteArray) (c : Int) (d : Bool) (n : Nat) (es : List PV) (k : Nat → List PV → RR) : RR :=
  bif decide (97 ≤ c) then (bif decide (c ≤ 122) then (bif d then (bif decide (c ≤ 106) then wr n es 48 fun n es => gtK ltB (B8 (c - 97)) fun z => wr n es z k else gtK ltB (B8 (c - 97)) fun z => wr n es z k) else gtK ltB (B8 (c - 97)) fun z => wr n es z k) else clsN sc c d n es k) else clsN sc c d n es k
theorem qDg (n : Int) : runP Tryd.prog E3 20 32 [cv n] = bif decide (48 ≤ n) then some (bv (decide (n ≤ 57))) else some (bv false) := by kernel_rfl
theorem oDg (args : List PV) (r : PV) (h : cDg args = some r) : Hx.Enters Tryd.prog 32 ∧ PCall Tryd.prog 32 args r := by
  unfold cDg at h; split at h
  · rename_i n; cases h
    refine runP_sound ok3 (n := 20) ?_
    rw [qDg]
    unfold dgB
    cases decide (48 ≤ n) <;> rfl
  · cases h
noncomputable def E5 : EnvK := E4.addO 32 cDg
theorem ok5 : EnvOK Tryd.prog E5.env := ok4.addO oDg
def scB : ByteArray := b8 [0, 2, 4, 36, 50]
def shB : ByteArray := b8 [62, 46, 47, 63, 44, 55, 33, 41, 57, 12, 59]
def lw (x : Int) : Int := (((wdL.getD x.toNat .any).cellAt 0).getS.size : Int)
def oneC (t : ByteArray) (i : Int) (n : Nat) (es : List PV) (k : Nat → List PV → RR) : RR :=
  gtK t i fun c => bif decide (0 < i) then (gtK t (W (i - 1)) fun b => cls scB c (dgB b) n es k) else cls scB c false n es k
/-- One round of Write's loop. -/
def rdW (t : ByteArray) (i : Int) (n : Nat) (es : List PV) (k : Int → Nat → List PV → RR) : RR :=
  bif decide (ixW (tlB t i) 0 wds ≥ 0) then
    gtK shB (ixW (tlB t i) 0 wds) fun z => wr n es z fun n es => bif decide (0 ≤ ixW (tlB t i) 0 wds) && decide (ixW (tlB t i) 0 wds < 11) then k (W (W (i + W (lw (ixW (tlB t i) 0 wds) - 1)) + 1)) n es else none
  else oneC t i n es (k (W (i + 1)))
set_option maxRecDepth 100000 in
theorem qRd (t : ByteArray) (n : Nat) (es : List PV) (i : Int) : runV Tryd.prog E5 60 11 (lpb Tryd.f11 5) [1, 4, 5] [4] 4 5 wS (wH t n es ++ [rwI i]) =
  bif decide (i < (t.size : Int)) then bif eqS wdL wds && ixOk t i then rdW t i n es fun i n es => some (.normal, wS, wH t n es ++ [rwI i]) else none else some (.exit 0, wX, wH t n es) := by kernel_rfl
end Go.Ht
/- Braille: the first round of Write's loop, when nothing has been written. -/
namespace Go.Ht
open Go.Hx Go.Proofs
abbrev wH0 (t : ByteArray) : List Row := [rwS t, ⟨[.agg [.val (.pointer none), .sl 3 0 0 0]], 2, 53, false, true, false, none, false⟩, rwD, ⟨[], 1, 5, true, true, true, none, false⟩]
set_option maxRecDepth 100000 in
theorem qRd0 (t : ByteArray) (i : Int) : runV Tryd.prog E5 60 11 (lpb Tryd.f11 5) [1, 4, 5] [4] 4 5 wS (wH0 t ++ [rwI i]) =
  bif decide (i < (t.size : Int)) then bif eqS wdL wds && ixOk t i then rdW t i 0 [] fun i n es => some (.normal, wS, wH t n es ++ [rwI i]) else none else some (.exit 0, wX, wH0 t) := by kernel_rfl
end Go.Ht
/- Braille: what one character comes to, as a list of cells. -/
namespace Go.Ht
open Go.Hx Go.Proofs
theorem wr_eq {n : Nat} {es : List PV} (c : Int) (k : Nat → List PV → RR) (h : es.length = n) (hb : n + 1 ≤ 140737488355328) : wr n es c k = k (n + 1) (es ++ [cv c]) := by
  unfold wr
  rw [decide_eq_true h, decide_eq_true (rfl : n = n), decide_eq_true (show (n + 1) * 1 ≤ 140737488355328 by omega)]; rfl
theorem gtK_eq {s : ByteArray} {z : Int} (k : Int → RR) (h0 : 0 ≤ z) (h1 : z < (s.size : Int)) : gtK s z k = k (gt s z) := by
  unfold gtK
  rw [decide_eq_true h0, decide_eq_true h1]; rfl
theorem lt_size : (ltB.size : Int) = 26 := rfl
theorem B8_id {n : Int} (h1 : 0 ≤ n) (h2 : n < 256) : B8 n = n := by rw [B8_eq]; omega
def clsUL (c : Int) (d : Bool) : List Int :=
  bif dgB c then (bif !d then [60, gt ltB ((B8 (B8 (c - 48) + 9)).tmod 10)] else [gt ltB ((B8 (B8 (c - 48) + 9)).tmod 10)])
  else bif decide (ixB c ≥ 0) then [gt scB (ixB c)] else [8, gt ltB (B8 (c.tdiv 16)), gt ltB (c.tmod 16)]
theorem ixB_lt (c : Int) : ixB c < 5 := by
  unfold ixB
  split
  · rename_i i h
    have := List.mem_of_find?_eq_some h
    have := List.mem_range.1 this
    have e : sgB.size = 5 := rfl
    omega
  · omega
theorem clsU_eq {c : Int} {d : Bool} {n : Nat} {es : List PV} {k : Nat → List PV → RR} (h : es.length = n) (hb : n + 3 ≤ 140737488355328) (c0 : 0 ≤ c) (c1 : c ≤ 255) : clsU scB c d n es k = k (n + (clsUL c d).length) (es ++ (clsUL c d).map cv) := by
  unfold clsU clsUL
  cases hd : dgB c with
  | true =>
    simp only [dgB, Bool.and_eq_true, decide_eq_true_eq] at hd
    have e : (B8 (B8 (c - 48) + 9)).tmod 10 = (c - 48 + 9) % 10 := by
      rw [B8_id (n := c - 48) (by omega) (by omega), B8_id (by omega) (by omega), Int.tmod_eq_emod_of_nonneg (by omega)]
    rw [e]
    cases d with
    | true =>
      simp only [cond_true, cond_false, Bool.not_true]
      rw [gtK_eq _ (by omega) (by rw [lt_size]; omega), wr_eq _ _ h (by omega)]
      rfl
    | false =>
      simp only [cond_true, Bool.not_false]
      rw [wr_eq _ _ h (by omega), gtK_eq _ (by omega) (by rw [lt_size]; omega), wr_eq _ _ (by simp [h]) (by omega)]
      simp
  | false =>
    simp only [cond_false]
    by_cases hx : ixB c ≥ 0
    · rw [decide_eq_true hx, cond_true, cond_true, gtK_eq _ hx (by have := ixB_lt c; have e : (scB.size : Int) = 5 := rfl; omega), wr_eq _ _ h (by omega)]
      rfl
    · rw [decide_eq_false hx, cond_false, cond_false, wr_eq _ _ h (by omega)]
      have e1 : B8 (c.tdiv 16) = c / 16 := by rw [Int.tdiv_eq_ediv_of_nonneg c0]; exact B8_id (by omega) (by omega)
      have e2 : c.tmod 16 = c % 16 := Int.tmod_eq_emod_of_nonneg c0
      rw [e1, e2, gtK_eq _ (by omega) (by rw [lt_size]; omega), wr_eq _ _ (by simp [h]) (by omega), gtK_eq _ (by omega) (by rw [lt_size]; omega), wr_eq _ _ (by simp [h]) (by omega)]
      simp
def clsNL (c : Int) (d : Bool) : List Int := bif decide (65 ≤ c) && decide (c ≤ 90) then [32, gt ltB (B8 (c - 65))] else clsUL c d
theorem clsN_eq {c : Int} {d : Bool} {n : Nat} {es : List PV} {k : Nat → List PV → RR} (h : es.length = n) (hb : n + 3 ≤ 140737488355328) (c0 : 0 ≤ c) (c1 : c ≤ 255) : clsN scB c d n es k = k (n + (clsNL c d).length) (es ++ (clsNL c d).map cv) := by
  unfold clsN clsNL
  rw [clsU_eq h hb c0 c1]
  by_cases h1 : 65 ≤ c
  · by_cases h2 : c ≤ 90
    · rw [decide_eq_true h1, decide_eq_true h2]
      simp only [cond_true, Bool.and_self]
      rw [wr_eq _ _ h (by omega), B8_id (by omega) (by omega), gtK_eq _ (by omega) (by rw [lt_size]; omega), wr_eq _ _ (by simp [h]) (by omega)]
      simp
    · rw [decide_eq_true h1, decide_eq_false h2]; rfl
  · rw [decide_eq_false h1]; rfl
/-- The cells of a character; d: a digit stands before it. -/
def clsL (c : Int) (d : Bool) : List Int := bif decide (97 ≤ c) && decide (c ≤ 122) then (bif d && decide (c ≤ 106) then [48, gt ltB (B8 (c - 97))] else [gt ltB (B8 (c - 97))]) else clsNL c d
theorem cls_eq {c : Int} {d : Bool} {n : Nat} {es : List PV} {k : Nat → List PV → RR} (h : es.length = n) (hb : n + 3 ≤ 140737488355328) (c0 : 0 ≤ c) (c1 : c ≤ 255) : cls scB c d n es k = k (n + (clsL c d).length) (es ++ (clsL c d).map cv) := by
  unfold cls clsL
  rw [clsN_eq h hb c0 c1]
  by_cases h1 : 97 ≤ c
  · by_cases h2 : c ≤ 122
    · have g : (gtK ltB (B8 (c - 97)) fun z => wr n es z k) = k (n + 1) (es ++ [cv (gt ltB (B8 (c - 97)))]) := by
        rw [gtK_eq _ (by rw [B8_id (by omega) (by omega)]; omega) (by rw [lt_size, B8_id (by omega) (by omega)]; omega), wr_eq _ _ h (by omega)]
      have g2 : (wr n es 48 fun n es => gtK ltB (B8 (c - 97)) fun z => wr n es z k) = k (n + 2) (es ++ [cv 48, cv (gt ltB (B8 (c - 97)))]) := by
        rw [wr_eq _ _ h (by omega), gtK_eq _ (by rw [B8_id (by omega) (by omega)]; omega) (by rw [lt_size, B8_id (by omega) (by omega)]; omega), wr_eq _ _ (by simp [h]) (by omega)]
        simp
      rw [g, g2, decide_eq_true h1, decide_eq_true h2]
      cases d
      · rfl
      · cases decide (c ≤ 106) <;> rfl
    · rw [decide_eq_true h1, decide_eq_false h2]; rfl
  · rw [decide_eq_false h1]; rfl
/-- The cells of the character at a place. -/
def oneL (t : ByteArray) (i : Int) : List Int := clsL (gt t i) (decide (0 < i) && dgB (gt t (i - 1)))
theorem gt_range (t : ByteArray) (i : Int) : 0 ≤ gt t i ∧ gt t i ≤ 255 := by
  unfold gt
  have := (t.data.getD i.toNat 0).toNat_lt
  omega
theorem oneC_eq {t : ByteArray} {i : Int} {n : Nat} {es : List PV} {k : Nat → List PV → RR} (h : es.length = n) (hb : n + 3 ≤ 140737488355328) (i0 : 0 ≤ i) (i1 : i < (t.size : Int)) (ht : (t.size : Int) ≤ 4611686018427387904) :
    oneC t i n es k = k (n + (oneL t i).length) (es ++ (oneL t i).map cv) := by
  unfold oneC oneL
  have hr := gt_range t i
  rw [gtK_eq _ i0 i1]
  by_cases h1 : 0 < i
  · rw [decide_eq_true h1, cond_true, W_id (by omega) (by omega), gtK_eq _ (by omega) (by omega), cls_eq h hb hr.1 hr.2]
    rfl
  · rw [decide_eq_false h1, cond_false, cls_eq h hb hr.1 hr.2]
    rfl
end Go.Ht
/- Braille: a round of Write's loop, and all rounds, as lists of cells. -/
namespace Go.Ht
open Go.Hx Go.Proofs
theorem ixW_has (s : ByteArray) : ∀ (n : Int) (l : List ByteArray), 0 ≤ n → ixW s n l = -1 ∨ ∃ (j : Nat) (w : ByteArray), ixW s n l = n + j ∧ l[j]? = some w ∧ hasP s w = true
  | _, [], _ => .inl rfl
  | n, w :: ws, hn => by
    rw [ixW]
    cases h : hasP s w with
    | true => exact .inr ⟨0, w, by simp, rfl, h⟩
    | false =>
      rw [cond_false]
      rcases ixW_has s (n + 1) ws (by omega) with g | ⟨j, w', g1, g2, g3⟩
      · exact .inl g
      · exact .inr ⟨j + 1, w', by omega, by simpa using g2, g3⟩
theorem tlB_size {t : ByteArray} {i : Int} (i0 : 0 ≤ i) : ((tlB t i).size : Int) = (t.size : Int) - i ∨ (t.size : Int) < i := by
  unfold tlB
  rw [ByteArray.size_extract]
  omega
/-- The word that stands at a place: its number, or -1. -/
def wAt (t : ByteArray) (i : Int) : Int := ixW (tlB t i) 0 wds
theorem wAt_cases {t : ByteArray} {i : Int} (i0 : 0 ≤ i) (i1 : i ≤ (t.size : Int)) : wAt t i = -1 ∨ (0 ≤ wAt t i ∧ wAt t i < 11 ∧ 2 ≤ lw (wAt t i) ∧ lw (wAt t i) ≤ 4 ∧ i + lw (wAt t i) ≤ (t.size : Int)) := by
  unfold wAt
  rcases ixW_has (tlB t i) 0 wds (by omega) with g | ⟨j, w, g1, g2, g3⟩
  · exact .inl g
  · refine .inr ?_
    rw [g1, Int.zero_add]
    have hj : j < 11 := (List.getElem?_eq_some_iff.1 g2).1
    have e : lw (j : Int) = (w.size : Int) := by
      unfold lw wdL
      rw [Int.toNat_natCast, List.getD_eq_getElem?_getD, List.getElem?_map, g2]
      rfl
    have hw : 2 ≤ w.size ∧ w.size ≤ 4 := by
      have : ∀ j, j < 11 → ∀ w, wds[j]? = some w → 2 ≤ w.size ∧ w.size ≤ 4 := by
        intro j hj w h
        match j, hj with
        | 0, _ => cases h; decide
        | 1, _ => cases h; decide
        | 2, _ => cases h; decide
        | 3, _ => cases h; decide
        | 4, _ => cases h; decide
        | 5, _ => cases h; decide
        | 6, _ => cases h; decide
        | 7, _ => cases h; decide
        | 8, _ => cases h; decide
        | 9, _ => cases h; decide
        | 10, _ => cases h; decide
      exact this j hj w g2
    have hs := tlB_size (t := t) i0
    unfold hasP at g3
    rw [Bool.and_eq_true, decide_eq_true_eq] at g3
    have := g3.1
    rw [e]
    omega
/-- What a round writes, and where the next begins. -/
def chL (t : ByteArray) (i : Int) : List Int := bif decide (wAt t i ≥ 0) then [gt shB (wAt t i)] else oneL t i
def nxI (t : ByteArray) (i : Int) : Int := bif decide (wAt t i ≥ 0) then i + lw (wAt t i) else i + 1
theorem nxI_le {t : ByteArray} {i : Int} (i0 : 0 ≤ i) (i1 : i < (t.size : Int)) : i < nxI t i ∧ nxI t i ≤ (t.size : Int) := by
  unfold nxI
  rcases wAt_cases (t := t) i0 (by omega) with g | ⟨g1, g2, g3, g4, g5⟩
  · rw [g]; simp; omega
  · rw [decide_eq_true g1]; simp only [cond_true]; omega
theorem rdW_eq {t : ByteArray} {i : Int} {n : Nat} {es : List PV} {k : Int → Nat → List PV → RR} (h : es.length = n) (hb : n + 3 ≤ 140737488355328) (i0 : 0 ≤ i) (i1 : i < (t.size : Int)) (ht : (t.size : Int) ≤ 4611686018427387904) :
    rdW t i n es k = k (nxI t i) (n + (chL t i).length) (es ++ (chL t i).map cv) := by
  unfold rdW chL nxI
  rw [show ixW (tlB t i) 0 wds = wAt t i from rfl]
  rcases wAt_cases (t := t) i0 (by omega) with g | ⟨g1, g2, g3, g4, g5⟩
  · rw [decide_eq_false (show ¬ wAt t i ≥ 0 by omega)]
    simp only [cond_false]
    rw [oneC_eq h hb i0 i1 ht, W_id (by omega) (by omega)]
  · rw [decide_eq_true (show wAt t i ≥ 0 from g1), decide_eq_true g2]
    simp only [cond_true, Bool.and_self]
    have e : (shB.size : Int) = 11 := rfl
    rw [gtK_eq _ g1 (by rw [e]; exact g2), wr_eq _ _ h (by omega), W_id (n := lw (wAt t i) - 1) (by omega) (by omega), W_id (n := i + (lw (wAt t i) - 1)) (by omega) (by omega), W_id (by omega) (by omega)]
    rw [show i + (lw (wAt t i) - 1) + 1 = i + lw (wAt t i) by omega]
    rfl
/-- All rounds from a place on. -/
def allL (t : ByteArray) : Nat → Int → List Int
  | 0, _ => []
  | f + 1, i => bif decide (i < (t.size : Int)) then chL t i ++ allL t f (nxI t i) else []
end Go.Ht
/- Braille: Write's loop as a contract. -/
namespace Go.Ht
open Go.Hx Go.Proofs
theorem allL_fuel {t : ByteArray} : ∀ (f g : Nat) (i : Int), 0 ≤ i → (t.size : Int) - i ≤ f → (t.size : Int) - i ≤ g → allL t f i = allL t g i
  | 0, 0, i, _, _, _ => rfl
  | 0, g + 1, i, _, h, _ => by rw [allL, allL, decide_eq_false (show ¬ i < (t.size : Int) by omega)]; rfl
  | f + 1, 0, i, _, _, h => by rw [allL, allL, decide_eq_false (show ¬ i < (t.size : Int) by omega)]; rfl
  | f + 1, g + 1, i, h0, h1, h2 => by
    rw [allL, allL]
    by_cases h : i < (t.size : Int)
    · have := nxI_le h0 h
      rw [allL_fuel f g (nxI t i) (by omega) (by omega) (by omega)]
    · rw [decide_eq_false h]; rfl
/-- What Write's loop writes from a place on. -/
def aL (t : ByteArray) (i : Int) : List Int := allL t t.size i
theorem aL_step {t : ByteArray} {i : Int} (h0 : 0 ≤ i) (h : i < (t.size : Int)) : aL t i = chL t i ++ aL t (nxI t i) := by
  have := nxI_le h0 h
  obtain ⟨m, hm⟩ : ∃ m, t.size = m + 1 := ⟨t.size - 1, by omega⟩
  unfold aL
  rw [allL_fuel t.size (m + 1) i h0 (by omega) (by omega), allL, decide_eq_true h, cond_true, allL_fuel m t.size (nxI t i) (by omega) (by omega) (by omega)]
theorem aL_end {t : ByteArray} {i : Int} (h0 : 0 ≤ i) (h : ¬ i < (t.size : Int)) : aL t i = [] := by
  unfold aL
  rw [allL_fuel t.size 0 i h0 (by omega) (by omega)]; rfl
theorem clsUL_len (c : Int) (d : Bool) : (clsUL c d).length ≤ 3 := by
  unfold clsUL
  cases dgB c <;> cases d <;> cases decide (ixB c ≥ 0) <;> simp
theorem oneL_len (t : ByteArray) (i : Int) : (oneL t i).length ≤ 3 := by
  unfold oneL clsL clsNL
  generalize (decide (0 < i) && dgB (gt t (i - 1))) = d
  have := clsUL_len (gt t i) d
  cases decide (97 ≤ gt t i) <;> cases decide (gt t i ≤ 122) <;> cases d <;> cases decide (gt t i ≤ 106) <;> cases decide (65 ≤ gt t i) <;> cases decide (gt t i ≤ 90) <;> simp <;> assumption
theorem chL_len (t : ByteArray) (i : Int) : (chL t i).length ≤ 3 := by
  unfold chL
  have := oneL_len t i
  cases decide (wAt t i ≥ 0)
  · exact this
  · simp
abbrev WS := Bool × ByteArray × Int × List PV
/-- A state at the loop's head; the first: nothing is written. -/
def wEmb : WS → List PV × List Row
  | (true, t, i, _) => (wS, wH0 t ++ [rwI i])
  | (false, t, i, es) => (wS, wH t es.length es ++ [rwI i])
def eqP : PV → PV → Bool
  | .any, .any => true
  | .ptr a b c d, .ptr a' b' c' d' => Nat.beq a a' && Nat.beq b b' && Nat.beq c c' && Nat.beq d d'
  | _, _ => false
theorem eqP_eq {p q : PV} (h : eqP p q = true) : p = q := by
  unfold eqP at h
  split at h
  · rfl
  · simp only [Bool.and_eq_true] at h
    obtain ⟨⟨⟨a, b⟩, c⟩, d⟩ := h
    rw [Nat.eq_of_beq_eq_true a, Nat.eq_of_beq_eq_true b, Nat.eq_of_beq_eq_true c, Nat.eq_of_beq_eq_true d]
  · cases h
def eqPs : List PV → List PV → Bool
  | [], [] => true
  | p :: ps, q :: qs => eqP p q && eqPs ps qs
  | _, _ => false
theorem eqPs_eq : ∀ {ps qs : List PV}, eqPs ps qs = true → ps = qs
  | [], [], _ => rfl
  | p :: ps, q :: qs, h => by
    rw [eqPs, Bool.and_eq_true] at h
    rw [eqP_eq h.1, eqPs_eq h.2]
  | [], _ :: _, h => by cases h
  | _ :: _, [], h => by cases h
def wGetR : List Row → Option WS
  | [⟨[.val (.string t)], 1, 9, true, true, false, none, false⟩, ⟨[.agg [.val (.pointer none), .sl 3 0 0 0]], 2, 53, false, true, false, none, false⟩, ⟨[], 0, 0, true, false, false, none, false⟩, ⟨[], 1, 5, true, true, true, none, false⟩, ⟨[.val (.int .i64 i)], 1, 3, true, true, false, none, false⟩] => some (true, t, i, [])
  | _ => none
def wGet (S : List PV) (H : List Row) : Option WS := match eqPs S wS with | true => wGetR H | false => none
theorem wGet_emb : ∀ S H s, wGet S H = some s → S = (wEmb s).1 ∧ H = (wEmb s).2 := by
  intro S H s h
  unfold wGet at h
  split at h
  · rename_i hs
    rw [eqPs_eq hs]
    unfold wGetR at h
    split at h
    · cases h; exact ⟨rfl, rfl⟩
    · cases h
  · cases h
def wPre : WS → Bool
  | (_, t, i, es) => decide (0 ≤ i) && decide (i ≤ (t.size : Int)) && decide ((t.size : Int) ≤ 1099511627776) && decide ((es.length : Int) ≤ 3 * i)
def wFin : WS → DT (PX × List PV × List Row)
  | (true, t, i, _) => .br (decide (i < (t.size : Int))) (.leaf (.exit 0, wX, wH t (aL t i).length ((aL t i).map cv))) (.leaf (.exit 0, wX, wH0 t))
  | (false, t, i, es) => .leaf (.exit 0, wX, wH t (es.length + (aL t i).length) (es ++ (aL t i).map cv))
def wMe : WS → Nat
  | (_, t, i, _) => ((t.size : Int) - i).toNat
theorem eqS_w : eqS wdL wds = true := by decide
theorem ixOk_t {t : ByteArray} {i : Int} (h0 : 0 ≤ i) (h1 : i ≤ (t.size : Int)) : ixOk t i = true := by
  unfold ixOk
  rw [decide_eq_true h0, decide_eq_true h1, decide_eq_true (Int.le_refl _)]; rfl
theorem wStep : ∀ s r, wPre s = true → (wFin s).run = some r → r.1 ≠ .normal ∧ (runV Tryd.prog E5 60 11 (lpb Tryd.f11 5) [1, 4, 5] [4] 4 5 (wEmb s).1 (wEmb s).2 = some r ∨
      ∃ s', runV Tryd.prog E5 60 11 (lpb Tryd.f11 5) [1, 4, 5] [4] 4 5 (wEmb s).1 (wEmb s).2 = some (.normal, wEmb s') ∧ wPre s' = true ∧ wMe s' < wMe s ∧ (wFin s').run = some r) := by
  rintro ⟨a, t, i, es⟩ r hp hf
  simp only [wPre, Bool.and_eq_true, decide_eq_true_eq] at hp
  obtain ⟨⟨⟨h0, h1⟩, ht⟩, he⟩ := hp
  by_cases hi : i < (t.size : Int)
  · have hn := nxI_le h0 hi
    have hc := chL_len t i
    have hs := aL_step h0 hi
    cases a with
    | true =>
      have hf : some (PX.exit 0, wX, wH t (aL t i).length ((aL t i).map cv)) = some r := by rw [wFin, decide_eq_true hi] at hf; exact hf
      obtain rfl := Option.some.inj hf
      refine ⟨by simp, .inr ⟨(false, t, nxI t i, (chL t i).map cv), ?_, ?_, ?_, ?_⟩⟩
      · show runV _ _ _ _ _ _ _ _ _ wS (wH0 t ++ [rwI i]) = _
        rw [qRd0, decide_eq_true hi, eqS_w, ixOk_t h0 h1]
        simp only [cond_true, Bool.and_self]
        rw [rdW_eq (n := 0) (es := []) rfl (by omega) h0 hi (by omega)]
        simp [wEmb]
      · simp only [wPre, Bool.and_eq_true, decide_eq_true_eq, List.length_map]; omega
      · simp only [wMe]; omega
      · rw [hs]
        simp [wFin, DT.run]
    | false =>
      obtain rfl := Option.some.inj hf
      refine ⟨by simp, .inr ⟨(false, t, nxI t i, es ++ (chL t i).map cv), ?_, ?_, ?_, ?_⟩⟩
      · show runV _ _ _ _ _ _ _ _ _ wS (wH t es.length es ++ [rwI i]) = _
        rw [qRd, decide_eq_true hi, eqS_w, ixOk_t h0 h1]
        simp only [cond_true, Bool.and_self]
        rw [rdW_eq rfl (by omega) h0 hi (by omega)]
        simp [wEmb]
      · simp only [wPre, Bool.and_eq_true, decide_eq_true_eq, List.length_append, List.length_map]; omega
      · simp only [wMe]; omega
      · rw [hs]
        simp [wFin, DT.run, Nat.add_assoc]
  · have hs := aL_end h0 hi
    cases a with
    | true =>
      have hf : some (PX.exit 0, wX, wH0 t) = some r := by rw [wFin, decide_eq_false hi] at hf; exact hf
      obtain rfl := Option.some.inj hf
      refine ⟨by simp, .inl ?_⟩
      show runV _ _ _ _ _ _ _ _ _ wS (wH0 t ++ [rwI i]) = _
      rw [qRd0, decide_eq_false hi]; rfl
    | false =>
      obtain rfl := Option.some.inj hf
      refine ⟨by simp, .inl ?_⟩
      show runV _ _ _ _ _ _ _ _ _ wS (wH t es.length es ++ [rwI i]) = _
      rw [qRd, decide_eq_false hi, hs]
      simp
noncomputable def E6 : EnvK := E5.addL2 11 5 [1, 4, 5] (byModelV 4 2 5 [true, true, true, true] wGet wPre wFin)
theorem ok6 : EnvOK Tryd.prog E6.env :=
  ok5.addL2 Tryd.func11 (show Tryd.f11.body = some (bod Tryd.f11) by kernel_rfl) (show (loops (bod Tryd.f11)).filter (fun b => rid b == 5) = [lpb Tryd.f11 5] by kernel_rfl)
    fun hs ro S H dt x S' H' => loopU ok5 (n := 60) [1, 4, 5] [4] wEmb wGet_emb wMe wStep hs ro S H dt x S' H'
end Go.Ht
/- Braille: Write as a contract. -/
namespace Go.Ht
open Go.Hx Go.Proofs
set_option maxRecDepth 100000 in
theorem qWr (t : ByteArray) : runP Tryd.prog E6 60 11 [sv t] = bif !rgtB t then some (.tup [sv ByteArray.empty, iv 40]) else
  bif wPre (true, t, 0, []) then (bif decide ((0 : Int) < (t.size : Int)) then
    bif (((aL t 0).map cv).length == (aL t 0).length) && decide (0 < (aL t 0).length) then
    bif (((aL t 0).map cv).length == (aL t 0).length) && decide ((0 : Int) < ((aL t 0).length : Int)) && decide (((aL t 0).length : Int) ≤ ((aL t 0).length : Int)) && decide (((aL t 0).length : Int) ≤ 9223372036854775807) then
    some (.tup [sv (strB ((((aL t 0).map cv).drop 0).take ((aL t 0).length : Int).toNat)), iv 0]) else none else none else some (.tup [sv ByteArray.empty, iv 0])) else none := by kernel_rfl
theorem clsUL_pos (c : Int) (d : Bool) : 1 ≤ (clsUL c d).length := by
  unfold clsUL
  cases dgB c <;> cases d <;> cases decide (ixB c ≥ 0) <;> simp
theorem chL_pos (t : ByteArray) (i : Int) : 1 ≤ (chL t i).length := by
  unfold chL oneL clsL clsNL
  generalize (decide (0 < i) && dgB (gt t (i - 1))) = d
  have := clsUL_pos (gt t i) d
  cases decide (wAt t i ≥ 0) <;> cases decide (97 ≤ gt t i) <;> cases decide (gt t i ≤ 122) <;> cases d <;> cases decide (gt t i ≤ 106) <;> cases decide (65 ≤ gt t i) <;> cases decide (gt t i ≤ 90) <;> simp <;> assumption
theorem aL_len {t : ByteArray} : ∀ (m : Nat) (i : Int), 0 ≤ i → ((t.size : Int) - i).toNat ≤ m → ((aL t i).length : Int) ≤ 3 * m := by
  intro m
  induction m with
  | zero => intro i h0 h; rw [aL_end h0 (by omega)]; simp
  | succ m ih =>
    intro i h0 h
    by_cases hi : i < (t.size : Int)
    · have hn := nxI_le h0 hi
      have := ih (nxI t i) (by omega) (by omega)
      have := chL_len t i
      rw [aL_step h0 hi, List.length_append]
      omega
    · rw [aL_end h0 hi, List.length_nil]; omega
/-- The cells of a text, as one string. -/
def wrB (t : ByteArray) : ByteArray := strB ((aL t 0).map cv)
theorem qWrite (t : ByteArray) (ht : (t.size : Int) ≤ 1099511627776) : runP Tryd.prog E6 60 11 [sv t] = some (bif rgtB t then .tup [sv (wrB t), iv 0] else .tup [sv ByteArray.empty, iv 40]) := by
  rw [qWr]
  cases rgtB t with
  | false => rfl
  | true =>
    have hp : wPre (true, t, 0, []) = true := by simp only [wPre, Bool.and_eq_true, decide_eq_true_eq, List.length_nil]; omega
    rw [hp]
    simp only [Bool.not_true, cond_false, cond_true]
    by_cases h : (0 : Int) < (t.size : Int)
    · have h1 : 0 < (aL t 0).length := by
        have := chL_pos t 0
        rw [aL_step (by omega) h, List.length_append]; omega
      have h2 := aL_len (t := t) t.size 0 (by omega) (by omega)
      rw [decide_eq_true h, decide_eq_true h1, decide_eq_true (show (0 : Int) < ((aL t 0).length : Int) by omega), decide_eq_true (Int.le_refl _), decide_eq_true (show ((aL t 0).length : Int) ≤ 9223372036854775807 by omega), List.length_map, beq_self_eq_true]
      simp only [cond_true, Bool.and_self, List.drop_zero, Int.toNat_natCast]
      rw [List.take_of_length_le (by simp)]
      rfl
    · rw [decide_eq_false h]
      unfold wrB
      rw [aL_end (by omega) h]
      rfl
/-- What Write answers: the cells, and 0; or nothing, and 40. -/
def wrS (t : ByteArray) : ByteArray := bif rgtB t then wrB t else ByteArray.empty
def wrE (t : ByteArray) : Int := bif rgtB t then 0 else 40
def cWr : List PV → Option (DT PV)
  | [.val (.string t)] => some (.br (decide ((t.size : Int) ≤ 1099511627776)) (.leaf (.tup [sv (wrS t), iv (wrE t)])) .no)
  | _ => none
theorem eWr : Hx.Enters Tryd.prog 11 := enters_of Tryd.func11 (show Tryd.f11.body = some (bod Tryd.f11) by kernel_rfl) (by kernel_rfl)
theorem oWr (args : List PV) (d : DT PV) (r : PV) (h : cWr args = some d) (hr : d.run = some r) : PCall Tryd.prog 11 args r := by
  unfold cWr at h; split at h
  · rename_i t
    cases h
    obtain ⟨h1, rfl⟩ := run_br hr
    refine (runP_sound ok6 (n := 60) ?_).2
    rw [qWrite t (of_decide_eq_true h1)]
    unfold wrS wrE
    cases rgtB t <;> rfl
  · cases h
noncomputable def E7 : EnvK := E6.addF 11 cWr
theorem ok7 : EnvOK Tryd.prog E7.env := ok6.addF eWr oWr
end Go.Ht
/- Braille: the reference's Right as a contract. -/
namespace Go.Ht
open Go.Hx Go.Proofs
noncomputable def rS (t : ByteArray) (i : Int) : List PV := [sv t, .any, .any, iv i] ++ List.replicate (Tryd.f14.ntmps - 4) .any
noncomputable def rX (p : PV) : List PV := [.any, .any, p, .any] ++ List.replicate (Tryd.f14.ntmps - 4) .any
abbrev rOk (t : ByteArray) (i : Int) : Bool := decide (0 ≤ i) && decide (i < (t.size : Int))
set_option maxRecDepth 100000 in
theorem qRr (t : ByteArray) (i : Int) : runB Tryd.prog E7 60 14 (lpb Tryd.f14 2) [0, 3] [2] (rS t i) [] =
  bif decide (i < (t.size : Int)) then bif rOk t i then
    bif decide (gt t i < 32) then some (.ret, rX (bv false), []) else bif rOk t i then
    bif decide (gt t i > 126) then some (.ret, rX (bv false), []) else bif rOk t i then
    bif decide (gt t i = 34) then some (.ret, rX (bv false), []) else some (.normal, rS t (W (i + 1)), []) else none else none else none
  else some (.exit 0, rX .any, []) := by kernel_rfl
def badC (c : Int) : Bool := decide (c < 32) || decide (c > 126) || decide (c = 34)
def goodF (t : ByteArray) : Nat → Int → Bool
  | 0, _ => true
  | f + 1, i => bif decide (i < (t.size : Int)) then bif badC (gt t i) then false else goodF t f (i + 1) else true
theorem goodF_fuel {t : ByteArray} : ∀ (f g : Nat) (i : Int), (t.size : Int) - i ≤ f → (t.size : Int) - i ≤ g → goodF t f i = goodF t g i
  | 0, 0, i, _, _ => rfl
  | 0, g + 1, i, h, _ => by rw [goodF, goodF, decide_eq_false (show ¬ i < (t.size : Int) by omega)]; rfl
  | f + 1, 0, i, _, h => by rw [goodF, goodF, decide_eq_false (show ¬ i < (t.size : Int) by omega)]; rfl
  | f + 1, g + 1, i, h1, h2 => by rw [goodF, goodF, goodF_fuel f g (i + 1) (by omega) (by omega)]
/-- All bytes from a place on are in order. -/
def goodB (t : ByteArray) (i : Int) : Bool := goodF t t.size i
theorem goodB_step {t : ByteArray} {i : Int} (h0 : 0 ≤ i) (h : i < (t.size : Int)) : goodB t i = bif badC (gt t i) then false else goodB t (i + 1) := by
  obtain ⟨m, hm⟩ : ∃ m, t.size = m + 1 := ⟨t.size - 1, by omega⟩
  unfold goodB
  rw [goodF_fuel t.size (m + 1) i (by omega) (by omega), goodF, decide_eq_true h, cond_true, goodF_fuel m t.size (i + 1) (by omega) (by omega)]
theorem goodB_end {t : ByteArray} {i : Int} (_ : 0 ≤ i) (h : ¬ i < (t.size : Int)) : goodB t i = true := by
  unfold goodB
  rw [goodF_fuel t.size 0 i (by omega) (by omega)]; rfl
abbrev QS := ByteArray × Int
noncomputable def rEmb (s : QS) : List PV × List Row := (rS s.1 s.2, [])
def anyT : List PV → Bool | [] => true | .any :: ps => anyT ps | _ => false
theorem anyT_eq : ∀ {ps : List PV}, anyT ps = true → ps = List.replicate ps.length .any
  | [], _ => rfl
  | .any :: ps, h => by rw [List.length_cons, List.replicate_succ, ← anyT_eq (ps := ps) h]
def rGet : List PV → List Row → Option QS
  | .val (.string t) :: .any :: .any :: .val (.int .i64 i) :: ps, [] => match anyT ps && Nat.beq ps.length 22 with | true => some (t, i) | false => none
  | _, _ => none
theorem nt14 : Tryd.f14.ntmps - 4 = 22 := by kernel_rfl
theorem rGet_emb : ∀ S H s, rGet S H = some s → S = (rEmb s).1 ∧ H = (rEmb s).2 := by
  intro S H s h
  unfold rGet at h
  split at h
  · rename_i t i ps
    split at h
    · rename_i hb
      rw [Bool.and_eq_true] at hb
      cases h
      refine ⟨?_, rfl⟩
      show _ = [sv t, .any, .any, iv i] ++ List.replicate (Tryd.f14.ntmps - 4) .any
      rw [nt14, anyT_eq hb.1, Nat.eq_of_beq_eq_true hb.2]; rfl
    · cases h
  · cases h
def rPre (s : QS) : Bool := decide (0 ≤ s.2) && decide (s.2 ≤ (s.1.size : Int)) && decide ((s.1.size : Int) ≤ 1099511627776)
noncomputable def rFin (s : QS) : DT (PX × List PV × List Row) := .br (goodB s.1 s.2) (.leaf (.exit 0, rX .any, [])) (.leaf (.ret, rX (bv false), []))
def rMe (s : QS) : Nat := ((s.1.size : Int) - s.2).toNat
theorem rStep : ∀ s r, rPre s = true → (rFin s).run = some r → r.1 ≠ .normal ∧ (runB Tryd.prog E7 60 14 (lpb Tryd.f14 2) [0, 3] [2] (rEmb s).1 (rEmb s).2 = some r ∨
      ∃ s', runB Tryd.prog E7 60 14 (lpb Tryd.f14 2) [0, 3] [2] (rEmb s).1 (rEmb s).2 = some (.normal, rEmb s') ∧ rPre s' = true ∧ rMe s' < rMe s ∧ (rFin s').run = some r) := by
  rintro ⟨t, i⟩ r hp hf
  simp only [rPre, Bool.and_eq_true, decide_eq_true_eq] at hp
  obtain ⟨⟨h0, h1⟩, ht⟩ := hp
  have hrn : r.1 ≠ .normal := by
    have h2 : (bif goodB t i then some (PX.exit 0, rX .any, ([] : List Row)) else some (PX.ret, rX (bv false), [])) = some r := hf
    cases hg : goodB t i with
    | true => rw [hg] at h2; obtain rfl := Option.some.inj h2; simp
    | false => rw [hg] at h2; obtain rfl := Option.some.inj h2; simp
  refine ⟨hrn, ?_⟩
  by_cases hi : i < (t.size : Int)
  · have hs := goodB_step h0 hi
    have hq := qRr t i
    rw [decide_eq_true hi, show rOk t i = true by simp [rOk, h0, hi]] at hq
    simp only [cond_true] at hq
    have bad : badC (gt t i) = true → runB Tryd.prog E7 60 14 (lpb Tryd.f14 2) [0, 3] [2] (rEmb (t, i)).1 (rEmb (t, i)).2 = some (.ret, rX (bv false), []) := by
      intro hb
      refine hq.trans ?_
      simp only [badC, Bool.or_eq_true] at hb
      cases e1 : decide (gt t i < 32) with
      | true => rfl
      | false =>
        cases e2 : decide (gt t i > 126) with
        | true => rfl
        | false =>
          rw [e1, e2] at hb
          have hb : decide (gt t i = 34) = true := by simpa using hb
          rw [hb]; rfl
    cases hb : badC (gt t i) with
    | true =>
      rw [hb, cond_true] at hs
      refine .inl ((bad hb).trans ?_)
      simpa [rFin, DT.run, hs] using hf
    | false =>
      rw [hb, cond_false] at hs
      refine .inr ⟨(t, i + 1), hq.trans ?_, ?_, ?_, ?_⟩
      · simp only [badC, Bool.or_eq_false_iff] at hb
        rw [hb.1.1, hb.1.2, hb.2, W_id (by omega) (by omega)]; rfl
      · simp only [rPre, Bool.and_eq_true, decide_eq_true_eq]; omega
      · simp only [rMe]; omega
      · simp only [rFin] at hf ⊢; rw [← hs]; exact hf
  · have hs := goodB_end h0 hi
    refine .inl ((qRr t i).trans ?_)
    rw [decide_eq_false hi]
    simpa [rFin, DT.run, hs] using hf
noncomputable def E8 : EnvK := E7.addL 14 2 [0, 3] (byModel [] rGet rPre rFin)
theorem ok8 : EnvOK Tryd.prog E8.env :=
  ok7.addM (n := 60) Tryd.func14 (show Tryd.f14.body = some (bod Tryd.f14) by kernel_rfl) (show (loops (bod Tryd.f14)).filter (fun b => rid b == 2) = [lpb Tryd.f14 2] by kernel_rfl) [0, 3] [2] rEmb rGet_emb rMe rStep
theorem qRR (t : ByteArray) : runP Tryd.prog E8 60 14 [sv t] = bif rPre (t, 0) then (bif goodB t 0 then some (bv true) else some (bv false)) else none := by kernel_rfl
def cRR : List PV → Option (DT PV)
  | [.val (.string t)] => some (.br (decide ((t.size : Int) ≤ 1099511627776)) (.leaf (bv (goodB t 0))) .no)
  | _ => none
theorem eRR : Hx.Enters Tryd.prog 14 := enters_of Tryd.func14 (show Tryd.f14.body = some (bod Tryd.f14) by kernel_rfl) (by kernel_rfl)
theorem oRR (args : List PV) (d : DT PV) (r : PV) (h : cRR args = some d) (hr : d.run = some r) : PCall Tryd.prog 14 args r := by
  unfold cRR at h; split at h
  · rename_i t
    cases h
    obtain ⟨h1, rfl⟩ := run_br hr
    have h1 := of_decide_eq_true h1
    have hp : rPre (t, 0) = true := by simp only [rPre, Bool.and_eq_true, decide_eq_true_eq]; omega
    refine (runP_sound ok8 (n := 60) ?_).2
    rw [qRR, hp]
    cases goodB t 0 <;> rfl
  · cases h
noncomputable def E9 : EnvK := E8.addF 14 cRR
theorem ok9 : EnvOK Tryd.prog E9.env := ok8.addF eRR oRR
end Go.Ht
/- Braille: both implementations' Right say the same. -/
namespace Go.Ht
open Go.Hx Go.Proofs
theorem gt_byte {t : ByteArray} {p : Nat} (h : p < t.size) : gt t (p : Int) = ((t[p]'h).toNat : Int) := by
  unfold gt
  rw [Int.toNat_natCast, Array.getD_eq_getD_getElem?, Array.getElem?_eq_getElem (show p < t.data.size from h)]
  rfl
theorem rgtF_good (t : ByteArray) : ∀ (m p : Nat), t.size - p ≤ m → rgtF t m p = goodB t (p : Int)
  | 0, p, h => by rw [goodB_end (by omega) (by omega)]; rfl
  | m + 1, p, h => by
    by_cases hp : p < t.size
    · rw [rgtF_go hp, goodB_step (by omega) (by omega), gt_byte hp]
      by_cases ha : (t[p]'hp).toNat < 128
      · rw [decode_ascii t p hp ha, rgtF_good t m (p + 1) (by omega)]
        have e : badC ((t[p]'hp).toNat : Int) = (decide ((t[p]'hp).toNat < 32) || decide ((t[p]'hp).toNat > 126) || decide ((t[p]'hp).toNat = 34)) := by
          unfold badC
          congr 1
          · congr 1
            · exact decide_eq_decide.2 (by omega)
            · exact decide_eq_decide.2 (by omega)
          · exact decide_eq_decide.2 (by omega)
        rw [e]
        rfl
      · have hd := decode_high t p hp (by omega)
        have hb : badC ((t[p]'hp).toNat : Int) = true := by
          unfold badC
          rw [decide_eq_true (show ((t[p]'hp).toNat : Int) > 126 by omega)]; simp
        rw [hb, decide_eq_true (show (Utf8.decode t p).1 > 126 by have := hd.1; omega)]
        simp
    · rw [goodB_end (by omega) (by omega), rgtF, decide_eq_false hp]; rfl
theorem good_right (t : ByteArray) : rgtB t = goodB t 0 := rgtF_good t t.size 0 (by omega)
end Go.Ht
/- Braille: the reader's next cell as a letter; its next text. -/
namespace Go.Ht
open Go.Hx Go.Proofs
/-- The place of a byte in a string; -1, if it is not there. -/
def ixIn (s : ByteArray) (c : Int) : Int := match (List.range s.size).find? fun i => s[i]! == c.toNat.toUInt8 with | some i => (i : Int) | none => -1
abbrev rwR (s : ByteArray) (f : Bool) : Row := ⟨[.agg [sv s, bv f]], 2, 66, true, true, false, none, false⟩
abbrev R2 := Option (PV × List Row)
def isE (s : ByteArray) : Bool := s.toList == ByteArray.empty.toList
def inK (s : ByteArray) (z : Int) (k : Int → R2) : R2 := bif decide (0 ≤ z) && decide (z < (s.size : Int)) then k (gt s z) else none
def tailK (s : ByteArray) (k : ByteArray → R2) : R2 := bif decide ((0 : Int) ≤ 1) && decide ((1 : Int) ≤ (s.size : Int)) && decide ((s.size : Int) ≤ (s.size : Int)) then k (tlB s 1) else none
theorem qLe (s : ByteArray) (f : Bool) (m : Int) : runS Tryd.prog E9 30 48 [.ptr 0 1 0 0, iv m] [rwR s f] =
  bif isE s then some (.tup [iv 0, .gv 0], [rwR s f]) else inK s 0 fun c => tailK s fun s' =>
    bif decide (ixIn ltB c < 0) then some (.tup [iv 0, .gv 0], [rwR s' f]) else bif decide (ixIn ltB c ≥ m) then some (.tup [iv 0, .gv 0], [rwR s' f]) else some (.tup [iv (ixIn ltB c), .val .nilIface], [rwR s' f]) := by kernel_rfl
theorem isE_eq {s : ByteArray} : isE s = true ↔ s.size = 0 := by
  unfold isE
  rw [beq_iff_eq]
  constructor
  · intro h
    have := congrArg List.length h
    simpa [ByteArray.toList_eq] using this
  · intro h
    obtain ⟨a⟩ := s
    have : a = #[] := Array.eq_empty_of_size_eq_zero h
    subst this; rfl
/-- No letter less than a bound stands at the beginning. -/
def leB (s : ByteArray) (m : Int) : Bool := isE s || decide (ixIn ltB (gt s 0) < 0) || decide (ixIn ltB (gt s 0) ≥ m)
def cLe : List PV → List Row → Option (DT (PV × List Row))
  | [.ptr 0 1 0 0, .val (.int .i64 m)], [⟨[.agg [.val (.string s), .val (.bool f)]], 2, 66, true, true, false, none, false⟩] =>
    some (.br (leB s m) (.leaf (.tup [iv 0, .gv 0], [rwR (tlB s 1) f])) (.leaf (.tup [iv (ixIn ltB (gt s 0)), .val .nilIface], [rwR (tlB s 1) f])))
  | _, _ => none
theorem eLe : Hx.Enters Tryd.prog 48 := enters_of Tryd.func48 (show Tryd.f48.body = some (bod Tryd.f48) by kernel_rfl) (by kernel_rfl)
theorem tlB_nil {s : ByteArray} (h : s.size = 0) : tlB s 1 = s := by
  obtain ⟨a⟩ := s
  have : a = #[] := Array.eq_empty_of_size_eq_zero h
  subst this; rfl
theorem oLe (args : List PV) (H : List Row) (d : DT (PV × List Row)) (p : PV) (H' : List Row) (h : cLe args H = some d) (hr : d.run = some (p, H')) : RCall Tryd.prog 0 48 args H p H' := by
  unfold cLe at h
  split at h
  · rename_i m s f
    cases h
    refine (runS_sound ok9 (n := 30) ?_).2
    rw [qLe]
    unfold leB at hr
    cases h1 : isE s with
    | true =>
      rw [h1] at hr
      rw [tlB_nil (isE_eq.1 h1)] at hr
      exact hr
    | false =>
      have h2 : 0 < s.size := by
        rcases Nat.eq_zero_or_pos s.size with h | h
        · rw [isE_eq.2 h] at h1; cases h1
        · exact h
      rw [h1] at hr
      unfold inK tailK
      rw [decide_eq_true (Int.le_refl _), decide_eq_true (show (0 : Int) < (s.size : Int) by omega), decide_eq_true (show (0 : Int) ≤ 1 by omega), decide_eq_true (show (1 : Int) ≤ (s.size : Int) by omega), decide_eq_true (Int.le_refl _)]
      show (bif decide (ixIn ltB (gt s 0) < 0) then some (PV.tup [iv 0, .gv 0], [rwR (tlB s 1) f]) else bif decide (ixIn ltB (gt s 0) ≥ m) then some (PV.tup [iv 0, .gv 0], [rwR (tlB s 1) f]) else some (PV.tup [iv (ixIn ltB (gt s 0)), .val .nilIface], [rwR (tlB s 1) f])) = some (p, H')
      revert hr
      cases decide (ixIn ltB (gt s 0) < 0) <;> cases decide (ixIn ltB (gt s 0) ≥ m) <;> exact id
  · cases h
noncomputable def E10 : EnvK := E9.addR 48 cLe
theorem ok10 : EnvOK Tryd.prog E10.env := ok9.addR eLe oLe
/-- A number as a text of one character. -/
def chr (n : Int) : ByteArray := Utf8.encode (IntKind.i32.wrap n)
def ix0 (s : ByteArray) : Int := ixIn ltB (gt s 0)
def leK (s : ByteArray) (m : Int) (k : Int → PV → ByteArray → R2) : R2 := bif leB s m then k 0 (.gv 0) (tlB s 1) else k (ix0 s) (.val .nilIface) (tlB s 1)
def out (t : ByteArray) (e : PV) (s : ByteArray) (f : Bool) : R2 := some (.tup [sv t, e], [rwR s f])
def nxK (f : Bool) (c : Int) (s : ByteArray) : R2 :=
  let n := ixIn ltB c
  bif decide (n ≥ 0) then
    bif f then (bif decide (n < 10) then out (chr (W (48 + (W (n + 1)).tmod 10))) (.val .nilIface) s true else out (chr (W (97 + n))) (.val .nilIface) s false) else out (chr (W (97 + n))) (.val .nilIface) s false
  else bif decide (ixIn shB c ≥ 0) then
    bif decide (0 ≤ ixIn shB c) && decide (ixIn shB c < 11) then out ((wdL.getD (ixIn shB c).toNat .any).cellAt 0).getS (.val .nilIface) s false else none
  else bif decide (ixIn scB c ≥ 0) then
    bif decide (0 ≤ ixIn scB c) && decide (ixIn scB c ≤ W (ixIn scB c + 1)) && decide (W (ixIn scB c + 1) ≤ 5) then out (sgB.extract (ixIn scB c).toNat (W (ixIn scB c + 1)).toNat) (.val .nilIface) s false else none
  else bif decide (c = 32) then leK s 26 fun n e s => out (chr (W (65 + n))) e s false
  else bif decide (c = 48) then leK s 10 fun n e s => out (chr (W (97 + n))) e s false
  else bif decide (c = 60) then leK s 10 fun n e s => out (chr (W (48 + (W (n + 1)).tmod 10))) e s true
  else bif decide (c = 8) then leK s 16 fun a e s => leK s 16 fun b g s => out (chr (W (W (16 * a) + b))) (match e, g with | .val _, .val _ => .val .nilIface | _, _ => .bad 0) s false
  else out ByteArray.empty (.gv 0) s false
set_option maxRecDepth 100000 in
theorem qNx (s : ByteArray) (f : Bool) : runS Tryd.prog E10 40 38 [.ptr 0 1 0 0] [rwR s f] = inK s 0 fun c => tailK s fun s => nxK f c s := by kernel_rfl
/-- What the next cells come to: 0 (or 1, 2: errors), the text, the rest, whether a number goes on. -/
abbrev NV := Nat × ByteArray × ByteArray × Bool
def leN (s : ByteArray) (m : Int) : Int := bif leB s m then 0 else ix0 s
def cdB (b : Bool) : Nat := bif b then 1 else 0
def wdB (n : Int) : ByteArray := ((wdL.getD n.toNat .any).cellAt 0).getS
def nxV (f : Bool) (c : Int) (s : ByteArray) : NV :=
  bif decide (ixIn ltB c ≥ 0) then (bif f && decide (ixIn ltB c < 10) then (0, chr (W (48 + (W (ixIn ltB c + 1)).tmod 10)), s, true) else (0, chr (W (97 + ixIn ltB c)), s, false))
  else bif decide (ixIn shB c ≥ 0) then (0, wdB (ixIn shB c), s, false)
  else bif decide (ixIn scB c ≥ 0) then (0, sgB.extract (ixIn scB c).toNat (W (ixIn scB c + 1)).toNat, s, false)
  else bif decide (c = 32) then (cdB (leB s 26), chr (W (65 + leN s 26)), tlB s 1, false)
  else bif decide (c = 48) then (cdB (leB s 10), chr (W (97 + leN s 10)), tlB s 1, false)
  else bif decide (c = 60) then (cdB (leB s 10), chr (W (48 + (W (leN s 10 + 1)).tmod 10)), tlB s 1, true)
  else bif decide (c = 8) then (bif leB s 16 || leB (tlB s 1) 16 then 2 else 0, chr (W (W (16 * leN s 16) + leN (tlB s 1) 16)), tlB (tlB s 1) 1, false)
  else (1, ByteArray.empty, s, false)
def nvD (v : NV) : DT (PV × List Row) :=
  .br (Nat.beq v.1 0) (.leaf (.tup [sv v.2.1, .val .nilIface], [rwR v.2.2.1 v.2.2.2])) (.br (Nat.beq v.1 1) (.leaf (.tup [sv v.2.1, .gv 0], [rwR v.2.2.1 v.2.2.2])) (.leaf (.tup [sv v.2.1, .bad 0], [rwR v.2.2.1 v.2.2.2])))
theorem ixIn_lt (s : ByteArray) (c : Int) : ixIn s c < s.size := by
  unfold ixIn
  split
  · rename_i i hi
    have := List.mem_of_find?_eq_some hi
    simp only [List.mem_range] at this
    omega
  · omega
theorem nxK_eq (f : Bool) (c : Int) (s : ByteArray) : nxK f c s = (nvD (nxV f c s)).run := by
  unfold nxK nxV
  dsimp only
  cases decide (ixIn ltB c ≥ 0) with
  | true => cases f <;> cases decide (ixIn ltB c < 10) <;> rfl
  | false =>
    simp only [cond_false]
    by_cases h1 : ixIn shB c ≥ 0
    · have := ixIn_lt shB c
      have e : (shB.size : Int) = 11 := rfl
      rw [decide_eq_true h1, decide_eq_true (show ixIn shB c < 11 by omega)]; rfl
    · rw [decide_eq_false h1]
      simp only [cond_false]
      by_cases h2 : ixIn scB c ≥ 0
      · have := ixIn_lt scB c
        have e : (scB.size : Int) = 5 := rfl
        rw [W_id (n := ixIn scB c + 1) (by omega) (by omega), decide_eq_true h2, decide_eq_true (show ixIn scB c ≤ ixIn scB c + 1 by omega), decide_eq_true (show ixIn scB c + 1 ≤ 5 by omega)]; rfl
      · rw [decide_eq_false h2]
        simp only [cond_false]
        unfold leK leN
        cases decide (c = 32) with
        | true => cases leB s 26 <;> rfl
        | false =>
        cases decide (c = 48) with
        | true => cases leB s 10 <;> rfl
        | false =>
        cases decide (c = 60) with
        | true => cases leB s 10 <;> rfl
        | false =>
        cases decide (c = 8) with
        | true =>
          simp only [cond_true, cond_false]
          generalize tlB s 1 = u
          generalize ix0 s = x
          generalize ix0 u = y
          generalize tlB u 1 = u2
          cases leB s 16 <;> cases leB u 16 <;> simp only [cond_true, cond_false, Bool.or_true, Bool.or_false, out, nvD, DT.run, Nat.beq]
        | false => rfl
def cNx : List PV → List Row → Option (DT (PV × List Row))
  | [.ptr 0 1 0 0], [⟨[.agg [.val (.string s), .val (.bool f)]], 2, 66, true, true, false, none, false⟩] => some (.br (!isE s) (nvD (nxV f (gt s 0) (tlB s 1))) .no)
  | _, _ => none
theorem eNx : Hx.Enters Tryd.prog 38 := enters_of Tryd.func38 (show Tryd.f38.body = some (bod Tryd.f38) by kernel_rfl) (by kernel_rfl)
theorem oNx (args : List PV) (H : List Row) (d : DT (PV × List Row)) (p : PV) (H' : List Row) (h : cNx args H = some d) (hr : d.run = some (p, H')) : RCall Tryd.prog 0 38 args H p H' := by
  unfold cNx at h
  split at h
  · rename_i s f
    cases h
    refine (runS_sound ok10 (n := 40) ?_).2
    rw [qNx]
    cases h1 : isE s with
    | true => rw [h1] at hr; cases hr
    | false =>
      have h2 : 0 < s.size := by
        rcases Nat.eq_zero_or_pos s.size with h | h
        · rw [isE_eq.2 h] at h1; cases h1
        · exact h
      rw [h1] at hr
      unfold inK tailK
      rw [decide_eq_true (Int.le_refl _), decide_eq_true (show (0 : Int) < (s.size : Int) by omega), decide_eq_true (show (0 : Int) ≤ 1 by omega), decide_eq_true (show (1 : Int) ≤ (s.size : Int) by omega), decide_eq_true (Int.le_refl _)]
      show nxK f (gt s 0) (tlB s 1) = some (p, H')
      rw [nxK_eq]
      exact hr
  · cases h
noncomputable def E11 : EnvK := (E10.addR 38 cNx).addN 16 3 [(1101, 5, 1)]
theorem ok11 : EnvOK Tryd.prog E11.env := (ok10.addR eNx oNx).addN 16 3 [(1101, 5, 1)]
end Go.Ht
/- Braille: the round of Read's loop as a plain function. -/
namespace Go.Ht
open Go.Hx Go.Proofs
def dS (x : ByteArray) : List PV := [sv x, .any, .any, .any, .ptr 0 1 0 0, .ptr 1 1 0 0] ++ List.replicate 35 .any
def dX (x : ByteArray) (r e a b : PV) : List PV := [sv x, .any, r, e, a, b] ++ List.replicate 35 .any
abbrev dH (s : ByteArray) (f : Bool) (n : Nat) (es : List PV) (nl : Bool) : List Row := [rwR s f, ⟨[.agg [.ptr 1 1 0 0, .sl 2 n 0 n]], 2, 53, false, true, false, none, false⟩, ⟨es, 1, 5, true, true, nl, none, false⟩]
abbrev dH0 (s : ByteArray) (f : Bool) : List Row := [rwR s f, ⟨[.agg [.val (.pointer none), .sl 2 0 0 0]], 2, 53, false, true, false, none, false⟩, ⟨[], 1, 5, true, true, true, none, false⟩]
def nx (s : ByteArray) (f : Bool) : NV := nxV f (gt s 0) (tlB s 1)
set_option maxRecDepth 100000 in
theorem qRe (x s : ByteArray) (f : Bool) (n : Nat) (es : List PV) : runB Tryd.prog E11 60 16 (lpb Tryd.f16 3) [0, 4, 5] [0, 2, 3, 5] (dS x) (dH s f n es false) =
  bif !isE s then
    bif !isE s then
    bif Nat.beq (nxV f (gt s 0) (tlB s 1)).1 0 then
      bif decide (es.length = n) && decide (n = n) && decide ((n + (bytesL (nxV f (gt s 0) (tlB s 1)).2.1).length) * 1 ≤ 140737488355328) then
      some (.normal, dS x, dH (nxV f (gt s 0) (tlB s 1)).2.2.1 (nxV f (gt s 0) (tlB s 1)).2.2.2 (n + (bytesL (nxV f (gt s 0) (tlB s 1)).2.1).length) (es ++ bytesL (nxV f (gt s 0) (tlB s 1)).2.1) false)
      else none
    else bif Nat.beq (nxV f (gt s 0) (tlB s 1)).1 1 then some (.ret, dX x (sv ByteArray.empty) (iv 40) .any (.ptr 1 1 0 0), dH (nxV f (gt s 0) (tlB s 1)).2.2.1 (nxV f (gt s 0) (tlB s 1)).2.2.2 n es false) else some (.ret, dX x (sv ByteArray.empty) (iv 40) .any (.ptr 1 1 0 0), dH (nxV f (gt s 0) (tlB s 1)).2.2.1 (nxV f (gt s 0) (tlB s 1)).2.2.2 n es false)
    else none
  else some (.exit 0, dX x .any .any .any (.ptr 1 1 0 0), dH s f n es false) := by kernel_rfl
set_option maxRecDepth 100000 in
theorem qRe0 (x s : ByteArray) (f : Bool) : runB Tryd.prog E11 60 16 (lpb Tryd.f16 3) [0, 4, 5] [0, 2, 3, 5] (dS x) (dH0 s f) =
  bif !isE s then
    bif !isE s then
    bif Nat.beq (nxV f (gt s 0) (tlB s 1)).1 0 then
      bif decide ((0 + (bytesL (nxV f (gt s 0) (tlB s 1)).2.1).length) * 1 ≤ 140737488355328) then
      some (.normal, dS x, dH (nxV f (gt s 0) (tlB s 1)).2.2.1 (nxV f (gt s 0) (tlB s 1)).2.2.2 (0 + (bytesL (nxV f (gt s 0) (tlB s 1)).2.1).length) (bytesL (nxV f (gt s 0) (tlB s 1)).2.1) (true && (bytesL (nxV f (gt s 0) (tlB s 1)).2.1).isEmpty))
      else none
    else bif Nat.beq (nxV f (gt s 0) (tlB s 1)).1 1 then some (.ret, dX x (sv ByteArray.empty) (iv 40) .any (.ptr 1 1 0 0), dH0 (nxV f (gt s 0) (tlB s 1)).2.2.1 (nxV f (gt s 0) (tlB s 1)).2.2.2) else some (.ret, dX x (sv ByteArray.empty) (iv 40) .any (.ptr 1 1 0 0), dH0 (nxV f (gt s 0) (tlB s 1)).2.2.1 (nxV f (gt s 0) (tlB s 1)).2.2.2)
    else none
  else some (.exit 0, dX x .any .any .any (.ptr 1 1 0 0), dH0 s f) := by kernel_rfl
end Go.Ht
/- Braille: Read's loop as a contract. -/
namespace Go.Ht
open Go.Hx Go.Proofs
theorem chr_size (n : Int) : 1 ≤ (chr n).size ∧ (chr n).size ≤ 4 := by
  unfold chr Utf8.encode
  dsimp only
  repeat' split
  all_goals (constructor <;> simp [ByteArray.size])
theorem ixIn_ge (s : ByteArray) (c : Int) : -1 ≤ ixIn s c := by
  unfold ixIn
  split <;> omega
theorem wdB_all : (List.range 11).all (fun i => decide (1 ≤ (wdB i).size) && decide ((wdB i).size ≤ 4)) = true := by decide
theorem wdB_size {n : Int} (h0 : 0 ≤ n) (h1 : n < 11) : 1 ≤ (wdB n).size ∧ (wdB n).size ≤ 4 := by
  have h := List.all_eq_true.1 wdB_all n.toNat (by simp; omega)
  simp only [Bool.and_eq_true, decide_eq_true_eq] at h
  rwa [Int.toNat_of_nonneg h0] at h
theorem tlB_le (s : ByteArray) : (tlB s 1).size ≤ s.size := by
  unfold tlB; simp [ByteArray.size_extract]
theorem tlB_lt {s : ByteArray} (_ : 0 < s.size) : (tlB s 1).size = s.size - 1 := by
  unfold tlB; simp [ByteArray.size_extract]
theorem nxV_rest (f : Bool) (c : Int) (s : ByteArray) : (nxV f c s).2.2.1.size ≤ s.size := by
  have h1 := tlB_le s
  have h2 := tlB_le (tlB s 1)
  unfold nxV
  cases decide (ixIn ltB c ≥ 0) with
  | true => cases f && decide (ixIn ltB c < 10) <;> exact Nat.le_refl _
  | false =>
  cases decide (ixIn shB c ≥ 0) with
  | true => exact Nat.le_refl _
  | false =>
  cases decide (ixIn scB c ≥ 0) with
  | true => exact Nat.le_refl _
  | false =>
  cases decide (c = 32) with
  | true => exact h1
  | false =>
  cases decide (c = 48) with
  | true => exact h1
  | false =>
  cases decide (c = 60) with
  | true => exact h1
  | false =>
  cases decide (c = 8) with
  | true => exact Nat.le_trans h2 h1
  | false => exact Nat.le_refl _
theorem nxV_text {f : Bool} {c : Int} {s : ByteArray} (h : Nat.beq (nxV f c s).1 0 = true) : 1 ≤ (nxV f c s).2.1.size ∧ (nxV f c s).2.1.size ≤ 4 := by
  revert h
  unfold nxV
  cases decide (ixIn ltB c ≥ 0) with
  | true => intro _; cases f && decide (ixIn ltB c < 10) <;> exact chr_size _
  | false =>
  by_cases h1 : ixIn shB c ≥ 0
  · rw [decide_eq_true h1]; intro _
    have := ixIn_lt shB c
    have e : (shB.size : Int) = 11 := rfl
    exact wdB_size h1 (by omega)
  rw [decide_eq_false h1]
  by_cases h2 : ixIn scB c ≥ 0
  · rw [decide_eq_true h2]; intro _
    have := ixIn_lt scB c
    have e : (scB.size : Int) = 5 := rfl
    have e2 : sgB.size = 5 := rfl
    simp only [cond_false, cond_true]
    rw [W_id (by omega) (by omega), ByteArray.size_extract, e2]
    omega
  rw [decide_eq_false h2]
  cases decide (c = 32) with
  | true => intro _; exact chr_size _
  | false =>
  cases decide (c = 48) with
  | true => intro _; exact chr_size _
  | false =>
  cases decide (c = 60) with
  | true => intro _; exact chr_size _
  | false =>
  cases decide (c = 8) with
  | true => intro _; exact chr_size _
  | false => intro h; cases h
/-- Is it whole? the text; the rest; whether a number goes on. -/
abbrev DR := Bool × List UInt8 × ByteArray × Bool
def dcF : Nat → ByteArray → Bool → List UInt8 → DR
  | 0, s, f, es => (true, es, s, f)
  | n + 1, s, f, es => bif isE s then (true, es, s, f) else bif Nat.beq (nxV f (gt s 0) (tlB s 1)).1 0 then dcF n (nxV f (gt s 0) (tlB s 1)).2.2.1 (nxV f (gt s 0) (tlB s 1)).2.2.2 (es ++ (nxV f (gt s 0) (tlB s 1)).2.1.data.toList)
    else (false, es, (nxV f (gt s 0) (tlB s 1)).2.2.1, (nxV f (gt s 0) (tlB s 1)).2.2.2)
theorem isE_false {s : ByteArray} : isE s = false ↔ 0 < s.size := by
  rcases Nat.eq_zero_or_pos s.size with h | h
  · simp [isE_eq.2 h, h]
  · have : isE s ≠ true := fun e => by have := isE_eq.1 e; omega
    simp [Bool.eq_false_iff.2 this, h]
theorem dcF_fuel : ∀ (n m : Nat) (s : ByteArray) (f : Bool) (es : List UInt8), s.size ≤ n → s.size ≤ m → dcF n s f es = dcF m s f es
  | 0, 0, _, _, _, _, _ => rfl
  | 0, m + 1, s, f, es, h, _ => by rw [dcF, dcF, isE_eq.2 (by omega)]; rfl
  | n + 1, 0, s, f, es, _, h => by rw [dcF, dcF, isE_eq.2 (by omega)]; rfl
  | n + 1, m + 1, s, f, es, h1, h2 => by
    rw [dcF, dcF]
    cases he : isE s with
    | true => rfl
    | false =>
      have h3 := isE_false.1 he
      have h4 := nxV_rest f (gt s 0) (tlB s 1)
      rw [tlB_lt h3] at h4
      rw [dcF_fuel n m _ _ _ (by omega) (by omega)]
/-- What Read's loop comes to. -/
def dc (s : ByteArray) (f : Bool) (es : List UInt8) : DR := dcF s.size s f es
theorem dc_step {s : ByteArray} {f : Bool} {es : List UInt8} (h : isE s = false) (hn : Nat.beq (nxV f (gt s 0) (tlB s 1)).1 0 = true) :
    dc s f es = dc (nxV f (gt s 0) (tlB s 1)).2.2.1 (nxV f (gt s 0) (tlB s 1)).2.2.2 (es ++ (nxV f (gt s 0) (tlB s 1)).2.1.data.toList) := by
  have h3 := isE_false.1 h
  have h4 := nxV_rest f (gt s 0) (tlB s 1)
  rw [tlB_lt h3] at h4
  obtain ⟨m, hm⟩ : ∃ m, s.size = m + 1 := ⟨s.size - 1, by omega⟩
  unfold dc
  rw [hm, dcF, h, hn, cond_false, cond_true]
  exact dcF_fuel _ _ _ _ _ (by omega) (Nat.le_refl _)
theorem dc_bad {s : ByteArray} {f : Bool} {es : List UInt8} (h : isE s = false) (hn : Nat.beq (nxV f (gt s 0) (tlB s 1)).1 0 = false) :
    dc s f es = (false, es, (nxV f (gt s 0) (tlB s 1)).2.2.1, (nxV f (gt s 0) (tlB s 1)).2.2.2) := by
  have h3 := isE_false.1 h
  obtain ⟨m, hm⟩ : ∃ m, s.size = m + 1 := ⟨s.size - 1, by omega⟩
  unfold dc
  rw [hm, dcF, h, hn]; rfl
theorem dc_end {s : ByteArray} {f : Bool} {es : List UInt8} (h : isE s = true) : dc s f es = (true, es, s, f) := by
  unfold dc
  rw [isE_eq.1 h, dcF]
abbrev DS := ByteArray × ByteArray × Bool × List UInt8
def dRows (s : ByteArray) (f : Bool) : List UInt8 → List Row
  | [] => dH0 s f
  | b :: es => dH s f (b :: es).length ((b :: es).map bytePV) false
def dEmb (s : DS) : List PV × List Row := (dS s.1, dRows s.2.1 s.2.2.1 s.2.2.2)
def unB : List PV → Option (List UInt8)
  | [] => some []
  | .val (.int .u8 n) :: ps => match decide (0 ≤ n) && decide (n < 256), unB ps with | true, some l => some (UInt8.ofNat n.toNat :: l) | _, _ => none
  | _ => none
theorem unB_eq : ∀ {ps : List PV} {l : List UInt8}, unB ps = some l → ps = l.map bytePV
  | [], l, h => by cases h; rfl
  | p :: ps, l, h => by
    unfold unB at h
    split at h
    · rename_i e; cases e
    · rename_i n q e
      cases e
      split at h
      · rename_i l' h1 h2
        cases h
        rw [Bool.and_eq_true, decide_eq_true_eq, decide_eq_true_eq] at h1
        rw [List.map_cons, ← unB_eq h2]
        congr 1
        unfold bytePV
        have : ((UInt8.ofNat n.toNat).toNat : Int) = n := by
          rw [UInt8.toNat_ofNat']
          have : n.toNat % 2 ^ 8 = n.toNat := Nat.mod_eq_of_lt (by omega)
          omega
        rw [this]
      · cases h
    · cases h
def dGetR (x : ByteArray) : List Row → Option DS
  | [⟨[.agg [.val (.string s), .val (.bool f)]], 2, 66, true, true, false, none, false⟩, ⟨[.agg [.val (.pointer none), .sl 2 0 0 0]], 2, 53, false, true, false, none, false⟩, ⟨[], 1, 5, true, true, true, none, false⟩] => some (x, s, f, [])
  | [⟨[.agg [.val (.string s), .val (.bool f)]], 2, 66, true, true, false, none, false⟩, ⟨[.agg [.ptr 1 1 0 0, .sl 2 n 0 m]], 2, 53, false, true, false, none, false⟩, ⟨es, 1, 5, true, true, false, none, false⟩] =>
    match unB es with
    | some (b :: l) => match Nat.beq n (b :: l).length && Nat.beq m (b :: l).length with | true => some (x, s, f, b :: l) | false => none
    | _ => none
  | _ => none
def dGet (S : List PV) (H : List Row) : Option DS :=
  match S with
  | .val (.string x) :: S' => match eqPs S' ([.any, .any, .any, .ptr 0 1 0 0, .ptr 1 1 0 0] ++ List.replicate 35 .any) with | true => dGetR x H | false => none
  | _ => none
theorem dGet_emb : ∀ S H s, dGet S H = some s → S = (dEmb s).1 ∧ H = (dEmb s).2 := by
  intro S H s h
  unfold dGet at h
  split at h
  · rename_i x S'
    split at h
    · rename_i hs
      rw [eqPs_eq hs]
      unfold dGetR at h
      split at h
      · cases h; exact ⟨rfl, rfl⟩
      · split at h
        · rename_i b l hu
          split at h
          · rename_i hb
            cases h
            rw [Bool.and_eq_true] at hb
            rw [Nat.eq_of_beq_eq_true hb.1, Nat.eq_of_beq_eq_true hb.2, unB_eq hu]
            exact ⟨rfl, rfl⟩
          · cases h
        · cases h
      · cases h
    · cases h
  · cases h
def dPre (s : DS) : Bool := decide ((s.2.2.2.length : Int) + 4 * (s.2.1.size : Int) ≤ 70368744177664)
def dX1 (x : ByteArray) : List PV := dX x .any .any .any (.ptr 1 1 0 0)
def dX2 (x : ByteArray) : List PV := dX x (sv ByteArray.empty) (iv 40) .any (.ptr 1 1 0 0)
def dFin (s : DS) : DT (PX × List PV × List Row) :=
  .br (dc s.2.1 s.2.2.1 s.2.2.2).1
    (.br (dc s.2.1 s.2.2.1 s.2.2.2).2.1.isEmpty
      (.leaf (.exit 0, dX1 s.1, dH0 (dc s.2.1 s.2.2.1 s.2.2.2).2.2.1 (dc s.2.1 s.2.2.1 s.2.2.2).2.2.2))
      (.leaf (.exit 0, dX1 s.1, dH (dc s.2.1 s.2.2.1 s.2.2.2).2.2.1 (dc s.2.1 s.2.2.1 s.2.2.2).2.2.2 (dc s.2.1 s.2.2.1 s.2.2.2).2.1.length ((dc s.2.1 s.2.2.1 s.2.2.2).2.1.map bytePV) false)))
    (.br (dc s.2.1 s.2.2.1 s.2.2.2).2.1.isEmpty
      (.leaf (.ret, dX2 s.1, dH0 (dc s.2.1 s.2.2.1 s.2.2.2).2.2.1 (dc s.2.1 s.2.2.1 s.2.2.2).2.2.2))
      (.leaf (.ret, dX2 s.1, dH (dc s.2.1 s.2.2.1 s.2.2.2).2.2.1 (dc s.2.1 s.2.2.1 s.2.2.2).2.2.2 (dc s.2.1 s.2.2.1 s.2.2.2).2.1.length ((dc s.2.1 s.2.2.1 s.2.2.2).2.1.map bytePV) false)))
def dMe (s : DS) : Nat := s.2.1.size
theorem dFin_run (s : DS) : (dFin s).run = some (bif (dc s.2.1 s.2.2.1 s.2.2.2).1 then (.exit 0, dX1 s.1, dRows (dc s.2.1 s.2.2.1 s.2.2.2).2.2.1 (dc s.2.1 s.2.2.1 s.2.2.2).2.2.2 (dc s.2.1 s.2.2.1 s.2.2.2).2.1) else (.ret, dX2 s.1, dRows (dc s.2.1 s.2.2.1 s.2.2.2).2.2.1 (dc s.2.1 s.2.2.1 s.2.2.2).2.2.2 (dc s.2.1 s.2.2.1 s.2.2.2).2.1)) := by
  unfold dFin
  generalize dc s.2.1 s.2.2.1 s.2.2.2 = r
  obtain ⟨a, b, c, d⟩ := r
  cases a <;> cases b <;> rfl
theorem dStep : ∀ s r, dPre s = true → (dFin s).run = some r → r.1 ≠ .normal ∧ (runB Tryd.prog E11 60 16 (lpb Tryd.f16 3) [0, 4, 5] [0, 2, 3, 5] (dEmb s).1 (dEmb s).2 = some r ∨
      ∃ s', runB Tryd.prog E11 60 16 (lpb Tryd.f16 3) [0, 4, 5] [0, 2, 3, 5] (dEmb s).1 (dEmb s).2 = some (.normal, dEmb s') ∧ dPre s' = true ∧ dMe s' < dMe s ∧ (dFin s').run = some r) := by
  rintro ⟨x, s, f, es⟩ r hp hf
  simp only [dPre, decide_eq_true_eq] at hp
  rw [dFin_run] at hf
  dsimp only at hf
  obtain rfl := Option.some.inj hf
  refine ⟨by cases (dc s f es).1 <;> simp, ?_⟩
  cases he : isE s with
  | true =>
    rw [dc_end he]
    refine .inl ?_
    cases es with
    | nil => refine (qRe0 x s f).trans ?_; rw [he]; rfl
    | cons b es => refine (qRe x s f (b :: es).length ((b :: es).map bytePV)).trans ?_; rw [he]; rfl
  | false =>
    have h3 := isE_false.1 he
    have h4 := nxV_rest f (gt s 0) (tlB s 1)
    rw [tlB_lt h3] at h4
    cases hn : Nat.beq (nxV f (gt s 0) (tlB s 1)).1 0 with
    | true =>
      obtain ⟨t1, t2⟩ := nxV_text hn
      rw [dc_step he hn]
      refine .inr ⟨(x, (nxV f (gt s 0) (tlB s 1)).2.2.1, (nxV f (gt s 0) (tlB s 1)).2.2.2, es ++ (nxV f (gt s 0) (tlB s 1)).2.1.data.toList), ?_, ?_, ?_, dFin_run _⟩
      · generalize hnv : nxV f (gt s 0) (tlB s 1) = v at *
        obtain ⟨v1, v2, v3, v4⟩ := v
        have hl : (bytesL v2).length = v2.size := by rw [bytesL, List.length_map]; rfl
        dsimp only at t1 t2
        have hv : v2.data.toList.map bytePV = bytesL v2 := rfl
        have hs0 : v2.data.toList.length = v2.size := rfl
        cases es with
        | nil =>
          refine (qRe0 x s f).trans ?_
          rw [he, hnv]
          dsimp only
          rw [hn, hl, decide_eq_true (show (0 + v2.size) * 1 ≤ 140737488355328 by omega)]
          cases hb : v2.data.toList with
          | nil => rw [hb] at hs0; simp at hs0; omega
          | cons b l =>
            rw [hb] at hv
            rw [← hv]
            have e2 : 0 + v2.size = (b :: l).length := by rw [← hs0, hb]; omega
            rw [e2]
            rfl
        | cons b l =>
          refine (qRe x s f (b :: l).length ((b :: l).map bytePV)).trans ?_
          rw [he, hnv]
          dsimp only
          rw [hn, hl, ← hv]
          have h5 : (((b :: l).map bytePV).length) = (b :: l).length := by simp
          have h6 : (((b :: l).length : Nat) : Int) + 4 * (s.size : Int) ≤ 70368744177664 := hp
          rw [decide_eq_true h5, decide_eq_true rfl, decide_eq_true (show ((b :: l).length + v2.size) * 1 ≤ 140737488355328 by omega), ← List.map_append]
          have e2 : (b :: l).length + v2.size = (b :: l ++ v2.data.toList).length := by rw [List.length_append, hs0]
          rw [e2]
          rfl
      · have : (nxV f (gt s 0) (tlB s 1)).2.1.data.toList.length = (nxV f (gt s 0) (tlB s 1)).2.1.size := rfl
        simp only [dPre, decide_eq_true_eq, List.length_append, this]
        omega
      · show (nxV f (gt s 0) (tlB s 1)).2.2.1.size < s.size
        omega
    | false =>
      rw [dc_bad he hn]
      refine .inl ?_
      cases es with
      | nil => refine (qRe0 x s f).trans ?_; rw [he, hn]; cases Nat.beq (nxV f (gt s 0) (tlB s 1)).1 1 <;> rfl
      | cons b es => refine (qRe x s f (b :: es).length ((b :: es).map bytePV)).trans ?_; rw [he, hn]; cases Nat.beq (nxV f (gt s 0) (tlB s 1)).1 1 <;> rfl
noncomputable def E12 : EnvK := E11.addL 16 3 [0, 4, 5] (byModel [true, true, true] dGet dPre dFin)
theorem ok12 : EnvOK Tryd.prog E12.env :=
  ok11.addM (n := 60) Tryd.func16 (show Tryd.f16.body = some (bod Tryd.f16) by kernel_rfl) (show (loops (bod Tryd.f16)).filter (fun b => rid b == 3) = [lpb Tryd.f16 3] by kernel_rfl) [0, 4, 5] [0, 2, 3, 5] dEmb dGet_emb dMe dStep
end Go.Ht
/- Braille: Read as a contract. -/
namespace Go.Ht
open Go.Hx Go.Proofs
abbrev rFail : PV := .tup [sv ByteArray.empty, iv 40]
def rTx (es : List UInt8) : ByteArray := strB (((es.map bytePV).drop 0).take (es.length : Int).toNat)
def rC1 (es : List UInt8) : Bool := ((es.map bytePV).length == es.length) && decide (0 < es.length)
def rC2 (es : List UInt8) : Bool := ((es.map bytePV).length == es.length) && decide ((0 : Int) < (es.length : Int)) && decide ((es.length : Int) ≤ (es.length : Int)) && decide ((es.length : Int) ≤ 9223372036854775807)
theorem qRead0 (x : ByteArray) : runP Tryd.prog E12 60 16 [sv x] = bif dPre (x, x, false, []) then
    bif (dc x false []).1 then
      bif (dc x false []).2.1.isEmpty then (bif !((wrS ByteArray.empty).toList == x.toList) then some rFail else some (.tup [sv ByteArray.empty, iv 0]))
      else bif rC1 (dc x false []).2.1 then bif rC2 (dc x false []).2.1 then bif decide (((rTx (dc x false []).2.1).size : Int) ≤ 1099511627776) then
        bif !(decide (wrE (rTx (dc x false []).2.1) = 0)) then some rFail else bif !((wrS (rTx (dc x false []).2.1)).toList == x.toList) then some rFail else
        bif rC1 (dc x false []).2.1 then bif rC2 (dc x false []).2.1 then some (.tup [sv (rTx (dc x false []).2.1), iv 0]) else none else none
        else none else none else none
    else bif (dc x false []).2.1.isEmpty then some rFail else some rFail
  else none := by kernel_rfl
theorem strB_map (es : List UInt8) : strB (es.map bytePV) = ⟨es.toArray⟩ := by
  unfold strB strOfNums
  congr 2
  rw [List.map_map, List.map_map]
  conv => rhs; rw [← List.map_id es]
  apply List.map_congr_left
  intro b _
  show UInt8.ofNat ((b.toNat : Int)).toNat = b
  simp
theorem toList_beq (a b : ByteArray) : (a.toList == b.toList) = decide (a = b) := by
  rw [ByteArray.toList_eq, ByteArray.toList_eq]
  by_cases h : a = b
  · subst h; simp
  · rw [decide_eq_false h, beq_eq_false_iff_ne]
    intro e
    exact h (by obtain ⟨x⟩ := a; obtain ⟨y⟩ := b; exact congrArg _ (Array.ext' e))
/-- What the cells say. -/
def dT (x : ByteArray) : ByteArray := ⟨(dc x false []).2.1.toArray⟩
def rdOk (x : ByteArray) : Bool := (dc x false []).1 && (rgtB (dT x) && decide (wrB (dT x) = x))
theorem dcF_len : ∀ (n : Nat) (s : ByteArray) (f : Bool) (es : List UInt8), s.size ≤ n → (dcF n s f es).2.1.length ≤ es.length + 4 * s.size
  | 0, s, f, es, _ => Nat.le_add_right _ _
  | n + 1, s, f, es, h => by
    rw [dcF]
    cases he : isE s with
    | true => exact Nat.le_add_right _ _
    | false =>
      have h3 := isE_false.1 he
      have h4 := nxV_rest f (gt s 0) (tlB s 1)
      rw [tlB_lt h3] at h4
      cases hn : Nat.beq (nxV f (gt s 0) (tlB s 1)).1 0 with
      | true =>
        have h5 := (nxV_text hn).2
        have h6 := dcF_len n (nxV f (gt s 0) (tlB s 1)).2.2.1 (nxV f (gt s 0) (tlB s 1)).2.2.2 (es ++ (nxV f (gt s 0) (tlB s 1)).2.1.data.toList) (by omega)
        rw [List.length_append, show (nxV f (gt s 0) (tlB s 1)).2.1.data.toList.length = (nxV f (gt s 0) (tlB s 1)).2.1.size from rfl] at h6
        simp only [cond_false, cond_true]
        omega
      | false => exact Nat.le_add_right _ _
theorem wr_is (t x : ByteArray) : (decide (wrE t = 0) && decide (wrS t = x)) = (rgtB t && decide (wrB t = x)) := by
  unfold wrE wrS
  cases rgtB t <;> simp
theorem qRead {x : ByteArray} (hx : (x.size : Int) ≤ 68719476736) : runP Tryd.prog E12 60 16 [sv x] = some (bif rdOk x then .tup [sv (dT x), iv 0] else rFail) := by
  rw [qRead0]
  have hp : dPre (x, x, false, []) = true := by
    unfold dPre
    exact decide_eq_true (by simp only [List.length_nil]; omega)
  have hl := dcF_len x.size x false [] (Nat.le_refl _)
  change (dc x false []).2.1.length ≤ 0 + 4 * x.size at hl
  rw [hp, cond_true]
  unfold rdOk dT
  generalize dc x false [] = r at *
  obtain ⟨a, es, c, d⟩ := r
  dsimp only at *
  cases a with
  | false => cases es <;> rfl
  | true =>
    rw [cond_true, Bool.true_and, ← wr_is]
    cases es with
    | nil =>
      rw [toList_beq, show (([] : List UInt8).isEmpty) = true from rfl, cond_true]
      change (bif !(decide (wrS ByteArray.empty = x)) then some rFail else some (.tup [sv ByteArray.empty, iv 0])) = some (bif decide (wrE ByteArray.empty = 0) && decide (wrS ByteArray.empty = x) then .tup [sv ByteArray.empty, iv 0] else rFail)
      rw [show decide (wrE ByteArray.empty = 0) = true by decide]
      cases decide (wrS ByteArray.empty = x) <;> rfl
    | cons b l =>
      generalize hes : b :: l = es at *
      have h0 : 0 < es.length := by rw [← hes]; simp
      have hT : rTx es = ⟨es.toArray⟩ := by
        unfold rTx
        rw [List.drop_zero, Int.toNat_natCast, List.take_of_length_le (by simp), strB_map]
      have h1 : rC1 es = true := by unfold rC1; simp; omega
      have h2 : rC2 es = true := by unfold rC2; simp; omega
      have h3 : (((rTx es).size : Nat) : Int) ≤ 1099511627776 := by
        rw [hT]
        have : (⟨es.toArray⟩ : ByteArray).size = es.length := by simp [ByteArray.size]
        omega
      rw [h1, h2, decide_eq_true h3, hT, toList_beq (wrS ByteArray.empty), toList_beq (wrS ⟨es.toArray⟩), show es.isEmpty = false by rw [← hes]; rfl]
      cases decide (wrE ⟨es.toArray⟩ = 0) <;> cases decide (wrS ⟨es.toArray⟩ = x) <;> rfl
/-- What Read answers. -/
def rdS (x : ByteArray) : ByteArray := bif rdOk x then dT x else ByteArray.empty
def rdE (x : ByteArray) : Int := bif rdOk x then 0 else 40
def cRd : List PV → Option (DT PV)
  | [.val (.string x)] => some (.br (decide ((x.size : Int) ≤ 68719476736)) (.leaf (.tup [sv (rdS x), iv (rdE x)])) .no)
  | _ => none
theorem eRd : Hx.Enters Tryd.prog 16 := enters_of Tryd.func16 (show Tryd.f16.body = some (bod Tryd.f16) by kernel_rfl) (by kernel_rfl)
theorem oRd (args : List PV) (d : DT PV) (r : PV) (h : cRd args = some d) (hr : d.run = some r) : PCall Tryd.prog 16 args r := by
  unfold cRd at h; split at h
  · rename_i x
    cases h
    obtain ⟨h1, rfl⟩ := run_br hr
    refine (runP_sound ok12 (n := 60) ?_).2
    rw [qRead (of_decide_eq_true h1)]
    unfold rdS rdE
    cases rdOk x <;> rfl
  · cases h
noncomputable def E13 : EnvK := E12.addF 16 cRd
theorem ok13 : EnvOK Tryd.prog E13.env := ok12.addF eRd oRd
end Go.Ht
/- Braille: the examples hold. -/
namespace Go.Ht
open Go.Hx Go.Proofs
set_option maxRecDepth 100000 in
theorem qSan : runP Tryd.prog E13 60 9 [] = some (bv true) := by kernel_rfl
def cSan : List PV → Option PV | [] => some (bv true) | _ => none
theorem oSan (args : List PV) (r : PV) (h : cSan args = some r) : Hx.Enters Tryd.prog 9 ∧ PCall Tryd.prog 9 args r := by
  unfold cSan at h; split at h
  · cases h; exact runP_sound ok13 (n := 60) qSan
  · cases h
noncomputable def E14 : EnvK := E13.addO 9 cSan
theorem ok14 : EnvOK Tryd.prog E14.env := ok13.addO oSan
end Go.Ht
/- Braille: dots and cells. -/
namespace Go.Ht
open Go.Hx Go.Proofs
def bN (b : Bool) (n : Int) : Int := bif b then n else 0
/-- The cell of some dots. -/
def clV (a b c d e f : Bool) : Int := bN a 1 + bN b 2 + bN c 4 + bN d 8 + bN e 16 + bN f 32
/-- A dot of a cell. -/
def dtV (c : Int) (k : Nat) : Bool := decide (c.toNat / 2 ^ k % 2 = 1)
def dtM (c : Int) (k : Nat) : Bool := !decide (bits .and .u8 c (B8 (1 * 2 ^ min k 8)) = 0)
theorem dt_all : (List.range 256).all (fun n => (List.range 6).all fun k => dtM (n : Int) k == dtV (n : Int) k) = true := by kernel_rfl
theorem dt_eq {c : Int} (h0 : 0 ≤ c) (h1 : c < 256) {k : Nat} (hk : k < 6) : dtM c k = dtV c k := by
  have h := List.all_eq_true.1 (List.all_eq_true.1 dt_all c.toNat (by simp; omega)) k (by simpa using hk)
  rw [beq_iff_eq] at h
  rwa [Int.toNat_of_nonneg h0] at h
theorem qDo (c : Int) : runP Tryd.prog E14 60 21 [cv c] = some (.agg [bv (dtM c 0), bv (dtM c 1), bv (dtM c 2), bv (dtM c 3), bv (dtM c 4), bv (dtM c 5)]) := by kernel_rfl
def dtR (c : Int) (k : Int) : Bool := decide (bits .and .u8 (c.fdiv (2 ^ min k.toNat 8)) 1 = 1)
theorem dr_all : (List.range 256).all (fun n => (List.range 6).all fun k => dtR (n : Int) (k : Int) == dtV (n : Int) k) = true := by kernel_rfl
theorem dr_eq {c : Int} (h0 : 0 ≤ c) (h1 : c < 256) {k : Nat} (hk : k < 6) : dtR c k = dtV c k := by
  have h := List.all_eq_true.1 (List.all_eq_true.1 dr_all c.toNat (by simp; omega)) k (by simpa using hk)
  rw [beq_iff_eq] at h
  rwa [Int.toNat_of_nonneg h0] at h
theorem qDr (c : Int) : runP Tryd.prog E14 60 24 [cv c] = some (.agg [bv (dtR c 0), bv (dtR c 1), bv (dtR c 2), bv (dtR c 3), bv (dtR c 4), bv (dtR c 5)]) := by kernel_rfl
theorem qCe (a b c d e f : Bool) : runP Tryd.prog E14 60 22 [.agg [bv a, bv b, bv c, bv d, bv e, bv f]] = some (cv (clV a b c d e f)) := by
  cases a <;> cases b <;> cases c <;> cases d <;> cases e <;> cases f <;> kernel_rfl
theorem qCr (a b c d e f : Bool) : runP Tryd.prog E14 60 23 [.agg [bv a, bv b, bv c, bv d, bv e, bv f]] = some (cv (clV a b c d e f)) := by
  cases a <;> cases b <;> cases c <;> cases d <;> cases e <;> cases f <;> kernel_rfl
def dtL (c : Int) : PV := .agg [bv (dtV c 0), bv (dtV c 1), bv (dtV c 2), bv (dtV c 3), bv (dtV c 4), bv (dtV c 5)]
def cDo : List PV → Option (DT PV)
  | [.val (.int .u8 c)] => some (.br (decide (0 ≤ c) && decide (c < 256)) (.leaf (dtL c)) .no)
  | _ => none
def cCe : List PV → Option (DT PV)
  | [.agg [.val (.bool a), .val (.bool b), .val (.bool c), .val (.bool d), .val (.bool e), .val (.bool f)]] => some (.leaf (cv (clV a b c d e f)))
  | _ => none
theorem eDo : Hx.Enters Tryd.prog 21 := enters_of Tryd.func21 (show Tryd.f21.body = some (bod Tryd.f21) by kernel_rfl) (by kernel_rfl)
theorem eDr : Hx.Enters Tryd.prog 24 := enters_of Tryd.func24 (show Tryd.f24.body = some (bod Tryd.f24) by kernel_rfl) (by kernel_rfl)
theorem eCe : Hx.Enters Tryd.prog 22 := enters_of Tryd.func22 (show Tryd.f22.body = some (bod Tryd.f22) by kernel_rfl) (by kernel_rfl)
theorem eCr : Hx.Enters Tryd.prog 23 := enters_of Tryd.func23 (show Tryd.f23.body = some (bod Tryd.f23) by kernel_rfl) (by kernel_rfl)
theorem oDo (args : List PV) (d : DT PV) (r : PV) (h : cDo args = some d) (hr : d.run = some r) : PCall Tryd.prog 21 args r := by
  unfold cDo at h; split at h
  · rename_i c
    cases h
    obtain ⟨h1, rfl⟩ := run_br hr
    rw [Bool.and_eq_true, decide_eq_true_eq, decide_eq_true_eq] at h1
    refine (runP_sound ok14 (n := 60) ?_).2
    rw [qDo, dt_eq h1.1 h1.2 (show 0 < 6 by decide), dt_eq h1.1 h1.2 (show 1 < 6 by decide), dt_eq h1.1 h1.2 (show 2 < 6 by decide), dt_eq h1.1 h1.2 (show 3 < 6 by decide), dt_eq h1.1 h1.2 (show 4 < 6 by decide), dt_eq h1.1 h1.2 (show 5 < 6 by decide)]
    rfl
  · cases h
theorem oDr (args : List PV) (d : DT PV) (r : PV) (h : cDo args = some d) (hr : d.run = some r) : PCall Tryd.prog 24 args r := by
  unfold cDo at h; split at h
  · rename_i c
    cases h
    obtain ⟨h1, rfl⟩ := run_br hr
    rw [Bool.and_eq_true, decide_eq_true_eq, decide_eq_true_eq] at h1
    refine (runP_sound ok14 (n := 60) ?_).2
    have e := fun k (hk : k < 6) => dr_eq h1.1 h1.2 hk
    have e0 := e 0 (by decide)
    have e1 := e 1 (by decide)
    have e2 := e 2 (by decide)
    have e3 := e 3 (by decide)
    have e4 := e 4 (by decide)
    have e5 := e 5 (by decide)
    rw [qDr]
    exact congrArg some (congrArg PV.agg (by rw [show dtR c 0 = _ from e0, show dtR c 1 = _ from e1, show dtR c 2 = _ from e2, show dtR c 3 = _ from e3, show dtR c 4 = _ from e4, show dtR c 5 = _ from e5]))
  · cases h
theorem oCe (args : List PV) (d : DT PV) (r : PV) (h : cCe args = some d) (hr : d.run = some r) : PCall Tryd.prog 22 args r := by
  unfold cCe at h; split at h
  · cases h
    obtain rfl := Option.some.inj hr
    exact (runP_sound ok14 (n := 60) (qCe _ _ _ _ _ _)).2
  · cases h
theorem oCr (args : List PV) (d : DT PV) (r : PV) (h : cCe args = some d) (hr : d.run = some r) : PCall Tryd.prog 23 args r := by
  unfold cCe at h; split at h
  · cases h
    obtain rfl := Option.some.inj hr
    exact (runP_sound ok14 (n := 60) (qCr _ _ _ _ _ _)).2
  · cases h
noncomputable def E15 : EnvK := (((E14.addF 21 cDo).addF 24 cDo).addF 22 cCe).addF 23 cCe
theorem ok15 : EnvOK Tryd.prog E15.env := (((ok14.addF eDo oDo).addF eDr oDr).addF eCe oCe).addF eCr oCr
end Go.Ht
/- Braille: the law of dots and cells. -/
namespace Go.Ht
open Go.Hx Go.Proofs
def zS (c : Int) (h : Bool) (s : Int) (b0 b1 b2 b3 b4 b5 : Bool) (k : Int) : List PV := [cv c, .any, .any, .ptr 0 1 0 0, .any, bv h, cv s, .any, .any, .any, .any, .agg [bv b0, bv b1, bv b2, bv b3, bv b4, bv b5], iv k] ++ List.replicate 45 .any
def zX (c : Int) (h : Bool) (s : Int) : List PV := [cv c, .any, .any, .ptr 0 1 0 0, .any, bv h, cv s] ++ List.replicate 51 .any
abbrev zR (p : PV) : Row := ⟨[p], 6, 45, true, true, false, none, false⟩
set_option maxRecDepth 100000 in
theorem qZ0 (c : Int) (h : Bool) (s : Int) (b0 b1 b2 b3 b4 b5 : Bool) (p : PV) : runB Tryd.prog E15 60 8 (lpb Tryd.f8 4) [0, 3, 5, 6, 11, 12] [0, 3, 5, 6] (zS c h s b0 b1 b2 b3 b4 b5 0) [zR p] =
  bif b0 then some (.normal, zS c h (B8 (s + 1)) b0 b1 b2 b3 b4 b5 1, [zR p]) else some (.normal, zS c h s b0 b1 b2 b3 b4 b5 1, [zR p]) := by kernel_rfl
set_option maxRecDepth 100000 in
theorem qZ1 (c : Int) (h : Bool) (s : Int) (b0 b1 b2 b3 b4 b5 : Bool) (p : PV) : runB Tryd.prog E15 60 8 (lpb Tryd.f8 4) [0, 3, 5, 6, 11, 12] [0, 3, 5, 6] (zS c h s b0 b1 b2 b3 b4 b5 1) [zR p] =
  bif b1 then some (.normal, zS c h (B8 (s + 2)) b0 b1 b2 b3 b4 b5 2, [zR p]) else some (.normal, zS c h s b0 b1 b2 b3 b4 b5 2, [zR p]) := by kernel_rfl
set_option maxRecDepth 100000 in
theorem qZ2 (c : Int) (h : Bool) (s : Int) (b0 b1 b2 b3 b4 b5 : Bool) (p : PV) : runB Tryd.prog E15 60 8 (lpb Tryd.f8 4) [0, 3, 5, 6, 11, 12] [0, 3, 5, 6] (zS c h s b0 b1 b2 b3 b4 b5 2) [zR p] =
  bif b2 then some (.normal, zS c h (B8 (s + 4)) b0 b1 b2 b3 b4 b5 3, [zR p]) else some (.normal, zS c h s b0 b1 b2 b3 b4 b5 3, [zR p]) := by kernel_rfl
set_option maxRecDepth 100000 in
theorem qZ3 (c : Int) (h : Bool) (s : Int) (b0 b1 b2 b3 b4 b5 : Bool) (p : PV) : runB Tryd.prog E15 60 8 (lpb Tryd.f8 4) [0, 3, 5, 6, 11, 12] [0, 3, 5, 6] (zS c h s b0 b1 b2 b3 b4 b5 3) [zR p] =
  bif b3 then some (.normal, zS c h (B8 (s + 8)) b0 b1 b2 b3 b4 b5 4, [zR p]) else some (.normal, zS c h s b0 b1 b2 b3 b4 b5 4, [zR p]) := by kernel_rfl
set_option maxRecDepth 100000 in
theorem qZ4 (c : Int) (h : Bool) (s : Int) (b0 b1 b2 b3 b4 b5 : Bool) (p : PV) : runB Tryd.prog E15 60 8 (lpb Tryd.f8 4) [0, 3, 5, 6, 11, 12] [0, 3, 5, 6] (zS c h s b0 b1 b2 b3 b4 b5 4) [zR p] =
  bif b4 then some (.normal, zS c h (B8 (s + 16)) b0 b1 b2 b3 b4 b5 5, [zR p]) else some (.normal, zS c h s b0 b1 b2 b3 b4 b5 5, [zR p]) := by kernel_rfl
set_option maxRecDepth 100000 in
theorem qZ5 (c : Int) (h : Bool) (s : Int) (b0 b1 b2 b3 b4 b5 : Bool) (p : PV) : runB Tryd.prog E15 60 8 (lpb Tryd.f8 4) [0, 3, 5, 6, 11, 12] [0, 3, 5, 6] (zS c h s b0 b1 b2 b3 b4 b5 5) [zR p] =
  bif b5 then some (.normal, zS c h (B8 (s + 32)) b0 b1 b2 b3 b4 b5 6, [zR p]) else some (.normal, zS c h s b0 b1 b2 b3 b4 b5 6, [zR p]) := by kernel_rfl
theorem qZ6 (c : Int) (h : Bool) (s : Int) (b0 b1 b2 b3 b4 b5 : Bool) (p : PV) : runB Tryd.prog E15 60 8 (lpb Tryd.f8 4) [0, 3, 5, 6, 11, 12] [0, 3, 5, 6] (zS c h s b0 b1 b2 b3 b4 b5 6) [zR p] =
  some (.exit 0, zX c h s, [zR p]) := by kernel_rfl
def zT : List (Bool × Int) → Int → Int
  | [], s => s
  | (b, n) :: l, s => zT l (bif b then B8 (s + n) else s)
abbrev B6 := Bool × Bool × Bool × Bool × Bool × Bool
def zL (b : B6) : List (Bool × Int) := [(b.1, 1), (b.2.1, 2), (b.2.2.1, 4), (b.2.2.2.1, 8), (b.2.2.2.2.1, 16), (b.2.2.2.2.2, 32)]
abbrev ZS := Int × Bool × Int × B6 × Nat × PV
def zEmb (s : ZS) : List PV × List Row := (zS s.1 s.2.1 s.2.2.1 s.2.2.2.1.1 s.2.2.2.1.2.1 s.2.2.2.1.2.2.1 s.2.2.2.1.2.2.2.1 s.2.2.2.1.2.2.2.2.1 s.2.2.2.1.2.2.2.2.2 (s.2.2.2.2.1 : Int), [zR s.2.2.2.2.2])
def zGet (S : List PV) (H : List Row) : Option ZS :=
  match S, H with
  | .val (.int .u8 c) :: .any :: .any :: .ptr 0 1 0 0 :: .any :: .val (.bool h) :: .val (.int .u8 s) :: .any :: .any :: .any :: .any :: .agg [.val (.bool b0), .val (.bool b1), .val (.bool b2), .val (.bool b3), .val (.bool b4), .val (.bool b5)] :: .val (.int .i64 k) :: ps, [⟨[p], 6, 45, true, true, false, none, false⟩] =>
    match anyT ps && Nat.beq ps.length 45 && decide (0 ≤ k) with | true => some (c, h, s, (b0, b1, b2, b3, b4, b5), k.toNat, p) | false => none
  | _, _ => none
theorem zGet_emb : ∀ S H s, zGet S H = some s → S = (zEmb s).1 ∧ H = (zEmb s).2 := by
  intro S H s h
  unfold zGet at h
  split at h
  · rename_i c h0 s0 b0 b1 b2 b3 b4 b5 k ps p
    split at h
    · rename_i hb
      rw [Bool.and_eq_true, Bool.and_eq_true, decide_eq_true_eq] at hb
      cases h
      refine ⟨?_, rfl⟩
      show _ = [cv c, .any, .any, .ptr 0 1 0 0, .any, bv h0, cv s0, .any, .any, .any, .any, .agg [bv b0, bv b1, bv b2, bv b3, bv b4, bv b5], iv (k.toNat : Int)] ++ List.replicate 45 .any
      rw [anyT_eq hb.1.1, Nat.eq_of_beq_eq_true hb.1.2, Int.toNat_of_nonneg hb.2]; rfl
    · cases h
  · cases h
def zPre (s : ZS) : Bool := decide (s.2.2.2.2.1 ≤ 6)
def zFin (s : ZS) : DT (PX × List PV × List Row) := .leaf (.exit 0, zX s.1 s.2.1 (zT ((zL s.2.2.2.1).drop s.2.2.2.2.1) s.2.2.1), [zR s.2.2.2.2.2])
def zMe (s : ZS) : Nat := 6 - s.2.2.2.2.1
theorem zStep : ∀ s r, zPre s = true → (zFin s).run = some r → r.1 ≠ .normal ∧ (runB Tryd.prog E15 60 8 (lpb Tryd.f8 4) [0, 3, 5, 6, 11, 12] [0, 3, 5, 6] (zEmb s).1 (zEmb s).2 = some r ∨
      ∃ s', runB Tryd.prog E15 60 8 (lpb Tryd.f8 4) [0, 3, 5, 6, 11, 12] [0, 3, 5, 6] (zEmb s).1 (zEmb s).2 = some (.normal, zEmb s') ∧ zPre s' = true ∧ zMe s' < zMe s ∧ (zFin s').run = some r) := by
  rintro ⟨c, h, s, ⟨b0, b1, b2, b3, b4, b5⟩, k, p⟩ r hp hf
  simp only [zPre, decide_eq_true_eq] at hp
  obtain rfl := Option.some.inj hf
  refine ⟨by simp, ?_⟩
  match k, hp with
  | 0, _ => exact .inr ⟨(c, h, (bif b0 then B8 (s + 1) else s), (b0, b1, b2, b3, b4, b5), 1, p), (qZ0 c h s b0 b1 b2 b3 b4 b5 p).trans (by cases b0 <;> rfl), rfl, by simp only [zMe]; omega, rfl⟩
  | 1, _ => exact .inr ⟨(c, h, (bif b1 then B8 (s + 2) else s), (b0, b1, b2, b3, b4, b5), 2, p), (qZ1 c h s b0 b1 b2 b3 b4 b5 p).trans (by cases b1 <;> rfl), rfl, by simp only [zMe]; omega, rfl⟩
  | 2, _ => exact .inr ⟨(c, h, (bif b2 then B8 (s + 4) else s), (b0, b1, b2, b3, b4, b5), 3, p), (qZ2 c h s b0 b1 b2 b3 b4 b5 p).trans (by cases b2 <;> rfl), rfl, by simp only [zMe]; omega, rfl⟩
  | 3, _ => exact .inr ⟨(c, h, (bif b3 then B8 (s + 8) else s), (b0, b1, b2, b3, b4, b5), 4, p), (qZ3 c h s b0 b1 b2 b3 b4 b5 p).trans (by cases b3 <;> rfl), rfl, by simp only [zMe]; omega, rfl⟩
  | 4, _ => exact .inr ⟨(c, h, (bif b4 then B8 (s + 16) else s), (b0, b1, b2, b3, b4, b5), 5, p), (qZ4 c h s b0 b1 b2 b3 b4 b5 p).trans (by cases b4 <;> rfl), rfl, by simp only [zMe]; omega, rfl⟩
  | 5, _ => exact .inr ⟨(c, h, (bif b5 then B8 (s + 32) else s), (b0, b1, b2, b3, b4, b5), 6, p), (qZ5 c h s b0 b1 b2 b3 b4 b5 p).trans (by cases b5 <;> rfl), rfl, by simp only [zMe]; omega, rfl⟩
  | 6, _ => exact .inl (qZ6 c h s b0 b1 b2 b3 b4 b5 p)
noncomputable def E16 : EnvK := E15.addL 8 4 [0, 3, 5, 6, 11, 12] (byModel [true] zGet zPre zFin)
theorem ok16 : EnvOK Tryd.prog E16.env :=
  ok15.addM (n := 60) Tryd.func8 (show Tryd.f8.body = some (bod Tryd.f8) by kernel_rfl) (show (loops (bod Tryd.f8)).filter (fun b => rid b == 4) = [lpb Tryd.f8 4] by kernel_rfl) [0, 3, 5, 6, 11, 12] [0, 3, 5, 6] zEmb zGet_emb zMe zStep
end Go.Ht
/- Braille: the law of dots and cells, all at once. -/
namespace Go.Ht
open Go.Hx Go.Proofs
def aeB (b d : B6) : Bool := (b.1 == d.1) && ((b.2.1 == d.2.1) && ((b.2.2.1 == d.2.2.1) && ((b.2.2.2.1 == d.2.2.2.1) && ((b.2.2.2.2.1 == d.2.2.2.2.1) && ((b.2.2.2.2.2 == d.2.2.2.2.2) && true)))))
def dt6 (c : Int) : B6 := (dtV c 0, dtV c 1, dtV c 2, dtV c 3, dtV c 4, dtV c 5)
def cl6 (b : B6) : Int := clV b.1 b.2.1 b.2.2.1 b.2.2.2.1 b.2.2.2.2.1 b.2.2.2.2.2
abbrev oR6 (c : Int) : Bool := decide (0 ≤ c) && decide (c < 256)
abbrev fB : Option PV := some (bv false)
set_option maxRecDepth 100000 in
theorem qL8 (c : Int) (a b d e f g : Bool) : runP Tryd.prog E16 60 8 [cv c, .agg [bv a, bv b, bv d, bv e, bv f, bv g]] =
  bif oR6 c then bif decide (zT (zL (dt6 c)) 0 = bits .and .u8 c 63) then bif oR6 c then bif decide (cl6 (dt6 c) = bits .and .u8 c 63) then bif oR6 (cl6 (a, b, d, e, f, g)) then
  bif aeB (dt6 (cl6 (a, b, d, e, f, g))) (a, b, d, e, f, g) then bif decide (cl6 (a, b, d, e, f, g) = cl6 (a, b, d, e, f, g)) then bif oR6 c then bif oR6 c then some (bv (aeB (dt6 c) (dt6 c))) else none else none else fB else fB else none else fB else none else fB else none := by kernel_rfl
theorem al_all : (List.range 256).all (fun n => decide (zT (zL (dt6 (n : Int))) 0 = bits .and .u8 (n : Int) 63) && decide (cl6 (dt6 (n : Int)) = bits .and .u8 (n : Int) 63)) = true := by kernel_rfl
theorem aeB_self (b : B6) : aeB b b = true := by simp [aeB]
theorem law8 {c : Int} (h0 : 0 ≤ c) (h1 : c < 256) (a b d e f g : Bool) : runP Tryd.prog E16 60 8 [cv c, .agg [bv a, bv b, bv d, bv e, bv f, bv g]] = some (bv true) := by
  have h := List.all_eq_true.1 al_all c.toNat (by simp; omega)
  rw [Int.toNat_of_nonneg h0, Bool.and_eq_true] at h
  have hr : oR6 c = true := by simp [oR6, h0, h1]
  have h2 : oR6 (cl6 (a, b, d, e, f, g)) = true ∧ aeB (dt6 (cl6 (a, b, d, e, f, g))) (a, b, d, e, f, g) = true := by
    cases a <;> cases b <;> cases d <;> cases e <;> cases f <;> cases g <;> exact ⟨rfl, rfl⟩
  rw [qL8, hr, h.1, h.2, h2.1, h2.2, decide_eq_true rfl, aeB_self]
  rfl
theorem law8P {c : Int} (h0 : 0 ≤ c) (h1 : c < 256) (a b d e f g : Bool) : PCall Tryd.prog 8 [cv c, .agg [bv a, bv b, bv d, bv e, bv f, bv g]] (bv true) := (runP_sound ok16 (n := 60) (law8 h0 h1 a b d e f g)).2
end Go.Ht
/- Braille: made texts. -/
namespace Go.Ht
open Go.Hx Go.Proofs
def inr (es : List PV) (i : Int) : Bool := decide (0 ≤ i) && decide (i < (es.length : Int))
theorem inr_of {es : List PV} {i : Int} (h1 : 0 ≤ i) (h2 : i < (es.length : Int)) : inr es i = true := by unfold inr; simp; omega
/-- The pieces that texts are made of. -/
def mdB : List ByteArray := [b8 [116, 104, 101], b8 [97, 110, 100], b8 [102, 111, 114], b8 [119, 105, 116, 104], b8 [105, 110, 103], b8 [111, 102], b8 [99, 104], b8 [115, 104], b8 [116, 104], b8 [115, 116], b8 [101, 114], b8 [97], b8 [106], b8 [107], b8 [119], b8 [84, 104, 101], b8 [79, 97, 107], b8 [49], b8 [50, 48], b8 [55], b8 [32], b8 [45], b8 [46], b8 [38], b8 [47], b8 [101], b8 [116], b8 [105], b8 [126], b8 [39]]
def mdL : List PV := mdB.map sv
def shM : S1 := ⟨30, [(0, .lst 3), (3, .sl 0), (4, .str), (5, I64)], [.many 9 1]⟩
abbrev lM (f : Bool) (xs : List PV) (n l : Nat) (out : ByteArray) (k : Int) (ws : List PV) : LS := ([.l f xs, .n n, .n l, .s out, .i k], [.l false ws])
noncomputable abbrev xM (out : ByteArray) : PX × List PV × List Row := (.exit 0, tm 30 [(4, sv out)], [⟨mdL, 1, 9, true, true, false, none, false⟩])
def mdZ (x : Int) : Int := (W (x.tmod 30 + 30)).tmod 30
def mdP (z : Int) : ByteArray := ((mdL.getD (0 + z.toNat) .any).cellAt 0).getS
def gI (xs : List PV) (k : Int) : Int := ((xs.getD k.toNat .any).cellAt 0).getI
theorem qM (f : Bool) (xs : List PV) (out : ByteArray) (k : Int) : runB Tryd.prog E16 60 10 (lpb Tryd.f10 4) [0, 3, 4, 5] [4] (shM.put (lM f xs 30 30 out k mdL)).1 (shM.put (lM f xs 30 30 out k mdL)).2 =
  bif decide (k < (xs.length : Int)) then bif decide (k < 10) then bif inr xs k then bif decide (0 ≤ mdZ (gI xs k)) && decide (mdZ (gI xs k) < 30) then
    bif !decide (((out.size + (mdP (mdZ (gI xs k))).size : Nat) : Int) > IntKind.i64.max) then some (.normal, shM.put (lM f xs 30 30 (out ++ mdP (mdZ (gI xs k))) (W (k + 1)) mdL)) else none else none else none else some (xM out) else some (xM out) := by kernel_rfl
def mn10 (xs : List PV) : Nat := min xs.length 10
/-- The text that numbers make, from a place on, for some rounds. -/
def mdG (xs : List PV) (k : Int) (out : ByteArray) : Nat → ByteArray
  | 0 => out
  | m + 1 => mdG xs (k + 1) (out ++ mdP (mdZ (gI xs k))) m
def pM : LS → Bool
  | ([.l _ xs, .n n, .n l, .s out, .i k], [.l false ws]) => decide (n = 30) && decide (l = 30) && decide (0 ≤ k) && decide (k ≤ (mn10 xs : Int)) && decide ((out.size : Int) ≤ 4 * k) && eqS ws mdB
  | _ => false
noncomputable def fM : LS → DT (PX × List PV × List Row)
  | ([.l _ xs, .n _, .n _, .s out, .i k], [.l false _]) => .leaf (xM (mdG xs k out (mn10 xs - k.toNat)))
  | _ => .no
def mM : LS → Nat
  | ([.l _ xs, .n _, .n _, .s _, .i k], [.l false _]) => mn10 xs - k.toNat
  | _ => 0
theorem mdZ_ok (x : Int) : 0 ≤ mdZ x ∧ mdZ x < 30 := by
  unfold mdZ
  have h1 : -30 < x.tmod 30 := Int.lt_tmod_of_pos x (by decide)
  have h2 : x.tmod 30 < 30 := Int.tmod_lt_of_pos x (by decide)
  rw [W_id (by omega) (by omega)]
  have h3 : 0 ≤ (x.tmod 30 + 30).tmod 30 := Int.tmod_nonneg 30 (by omega)
  have h4 : (x.tmod 30 + 30).tmod 30 < 30 := Int.tmod_lt_of_pos _ (by decide)
  exact ⟨h3, h4⟩
theorem mdP_all : (List.range 30).all (fun i => decide ((mdP (i : Int)).size ≤ 4)) = true := by decide
theorem mdP_size (x : Int) : (mdP (mdZ x)).size ≤ 4 := by
  obtain ⟨h1, h2⟩ := mdZ_ok x
  have h := List.all_eq_true.1 mdP_all (mdZ x).toNat (by simp; omega)
  rw [Int.toNat_of_nonneg h1, decide_eq_true_eq] at h
  exact h
theorem sM : ∀ s r, pM s = true → (fM s).run = some r → r.1 ≠ .normal ∧ (runB Tryd.prog E16 60 10 (lpb Tryd.f10 4) [0, 3, 4, 5] [4] (shM.put s).1 (shM.put s).2 = some r ∨
      ∃ s', runB Tryd.prog E16 60 10 (lpb Tryd.f10 4) [0, 3, 4, 5] [4] (shM.put s).1 (shM.put s).2 = some (.normal, shM.put s') ∧ pM s' = true ∧ mM s' < mM s ∧ (fM s').run = some r) := by
  intro t r hp hr
  unfold pM at hp; split at hp
  · rename_i f xs n l out k ws
    simp only [Bool.and_eq_true, decide_eq_true_eq] at hp
    obtain ⟨⟨⟨⟨⟨rfl, rfl⟩, h3⟩, h4⟩, h5⟩, h6⟩ := hp
    obtain rfl := eqS_eq h6
    have hr' := (Option.some.inj hr).symm
    have hm10 : mn10 xs ≤ 10 ∧ mn10 xs ≤ xs.length := by unfold mn10; omega
    refine ⟨by rw [hr']; simp, ?_⟩
    rw [show shM.put ([.l f xs, .n 30, .n 30, .s out, .i k], [.l false (mdB.map sv)]) = shM.put (lM f xs 30 30 out k mdL) from rfl, qM]
    by_cases hk : k < (mn10 xs : Int)
    · obtain ⟨z1, z2⟩ := mdZ_ok (gI xs k)
      have hs := mdP_size (gI xs k)
      have hmx : IntKind.i64.max = 9223372036854775807 := rfl
      rw [decide_eq_true (show k < (xs.length : Int) by omega), decide_eq_true (show k < 10 by omega), cond_true, inr_of h3 (by omega), decide_eq_true z1, decide_eq_true z2, hmx, decide_eq_false (show ¬ ((out.size + (mdP (mdZ (gI xs k))).size : Nat) : Int) > 9223372036854775807 by omega), W_id (by omega) (by omega)]
      obtain ⟨m, hm⟩ : ∃ m, mn10 xs - k.toNat = m + 1 := ⟨mn10 xs - k.toNat - 1, by omega⟩
      have hm2 : mn10 xs - (k + 1).toNat = m := by omega
      rw [hm] at hr'
      simp only [mdG] at hr'
      refine .inr ⟨lM f xs 30 30 (out ++ mdP (mdZ (gI xs k))) (k + 1) mdL, rfl, ?_, by simp only [mM]; omega, ?_⟩
      · simp only [pM, Bool.and_eq_true, decide_eq_true_eq, ByteArray.size_append]
        refine ⟨⟨⟨⟨⟨trivial, trivial⟩, by omega⟩, by omega⟩, by omega⟩, by decide⟩
      · rw [hr']; simp only [fM, hm2]; rfl
    · rw [show mn10 xs - k.toNat = 0 by omega] at hr'
      simp only [mdG] at hr'
      refine .inl ?_
      rw [hr']
      by_cases h1 : k < (xs.length : Int)
      · rw [decide_eq_true h1, decide_eq_false (show ¬ k < 10 by unfold mn10 at hk; omega)]; rfl
      · rw [decide_eq_false h1]; rfl
  · cases hp
noncomputable def E17 : EnvK := E16.addW 10 4 [0, 3, 4, 5] [true] shM pM fM
theorem ok17 : EnvOK Tryd.prog E17.env :=
  ok16.addW (n := 60) Tryd.func10 (show Tryd.f10.body = some (bod Tryd.f10) by kernel_rfl) (show (loops (bod Tryd.f10)).filter (fun b => rid b == 4) = [lpb Tryd.f10 4] by kernel_rfl) [0, 3, 4, 5] [4] [true] shM mM sM
/-- The text that numbers make. -/
def mdS (xs : List PV) : ByteArray := mdG xs 0 ByteArray.empty (mn10 xs)
theorem qMd (f : Bool) (xs : List PV) : runP Tryd.prog E17 60 10 [.lst f 3 xs] = bif pM (lM f xs 30 30 ByteArray.empty 0 mdL) then some (sv (mdG xs 0 ByteArray.empty (mn10 xs - (0 : Int).toNat))) else none := by kernel_rfl
theorem mdG_size (xs : List PV) : ∀ (m : Nat) (k : Int) (out : ByteArray), (mdG xs k out m).size ≤ out.size + 4 * m
  | 0, _, _ => Nat.le_refl _
  | m + 1, k, out => by
    have h1 := mdG_size xs m (k + 1) (out ++ mdP (mdZ (gI xs k)))
    have h2 := mdP_size (gI xs k)
    rw [ByteArray.size_append] at h1
    simp only [mdG]
    omega
theorem mdS_size (xs : List PV) : (mdS xs).size ≤ 40 := by
  have h := mdG_size xs (mn10 xs) 0 ByteArray.empty
  have : mn10 xs ≤ 10 := by unfold mn10; omega
  have e : ByteArray.empty.size = 0 := rfl
  unfold mdS
  omega
def cMd : List PV → Option PV | [.lst _ 3 xs] => some (sv (mdS xs)) | _ => none
theorem oMd (args : List PV) (r : PV) (h : cMd args = some r) : Hx.Enters Tryd.prog 10 ∧ PCall Tryd.prog 10 args r := by
  unfold cMd at h; split at h
  · rename_i f xs
    cases h
    refine runP_sound ok17 (n := 60) ?_
    have hp : pM (lM f xs 30 30 ByteArray.empty 0 mdL) = true := by
      simp only [pM, Bool.and_eq_true, decide_eq_true_eq]
      refine ⟨⟨⟨⟨⟨trivial, trivial⟩, by omega⟩, by omega⟩, by decide⟩, by decide⟩
    rw [qMd, hp]; rfl
  · cases h
noncomputable def E18 : EnvK := E17.addO 10 cMd
theorem ok18 : EnvOK Tryd.prog E18.env := ok17.addO oMd
end Go.Ht
/- Braille: changed cells. -/
namespace Go.Ht
open Go.Hx Go.Proofs
def apA (a : Int) (s : ByteArray) : Int := (W a).tmod (W ((s.size : Int) + 1))
def apM (i : ByteArray) : Int := if (10 : Int) < (i.size : Int) then 10 else (i.size : Int)
def apL (a b : Int) (s : ByteArray) : Int := if W (apA a s + (W b).tmod 4) < (s.size : Int) then W (apA a s + (W b).tmod 4) else (s.size : Int)
def ap1 (a : Int) (i s : ByteArray) : ByteArray := s.extract (0 : Int).toNat (apA a s).toNat ++ i.extract (0 : Int).toNat (apM i).toNat
/-- Changed cells. -/
def apS (a b : Int) (i s : ByteArray) : ByteArray := ap1 a i s ++ s.extract (apL a b s).toNat (s.size : Int).toNat
theorem qAp (a b : Int) (i s : ByteArray) : runP Tryd.prog E18 60 15 [.agg [cv a, cv b, sv i], sv s] =
  bif !decide (W ((s.size : Int) + 1) = 0) then
  bif decide ((0 : Int) ≤ 0) && decide (0 ≤ apA a s) && decide (apA a s ≤ (s.size : Int)) then
  bif decide ((0 : Int) ≤ 0) && decide (0 ≤ apM i) && decide (apM i ≤ (i.size : Int)) then
  bif !decide ((((s.extract (0 : Int).toNat (apA a s).toNat).size + (i.extract (0 : Int).toNat (apM i).toNat).size : Nat) : Int) > IntKind.i64.max) then
  bif decide (0 ≤ apL a b s) && decide (apL a b s ≤ (s.size : Int)) && decide ((s.size : Int) ≤ (s.size : Int)) then
  bif !decide ((((ap1 a i s).size + (s.extract (apL a b s).toNat (s.size : Int).toNat).size : Nat) : Int) > IntKind.i64.max) then
  some (sv (apS a b i s)) else none else none else none else none else none else none := by kernel_rfl
def cAp : List PV → Option (DT PV)
  | [.agg [.val (.int .u8 a), .val (.int .u8 b), .val (.string i)], .val (.string s)] => some (.br (oR6 a && oR6 b && decide ((s.size : Int) ≤ 1099511627776)) (.leaf (sv (apS a b i s))) .no)
  | _ => none
theorem eAp : Hx.Enters Tryd.prog 15 := enters_of Tryd.func15 (show Tryd.f15.body = some (bod Tryd.f15) by kernel_rfl) (by kernel_rfl)
theorem apA_ok {a : Int} (s : ByteArray) (h : 0 ≤ a) (ha : a < 256) (hs : (s.size : Int) ≤ 1099511627776) : 0 ≤ apA a s ∧ apA a s ≤ (s.size : Int) := by
  unfold apA
  rw [W_id (by omega) (by omega), W_id (by omega) (by omega)]
  have h1 := Int.tmod_nonneg ((s.size : Int) + 1) h
  have h2 := Int.tmod_lt_of_pos a (show 0 < (s.size : Int) + 1 by omega)
  omega
theorem apL_ok {a b : Int} (s : ByteArray) (h : 0 ≤ a) (ha : a < 256) (hb0 : 0 ≤ b) (hb : b < 256) (hs : (s.size : Int) ≤ 1099511627776) : 0 ≤ apL a b s ∧ apL a b s ≤ (s.size : Int) := by
  obtain ⟨h1, h2⟩ := apA_ok s h ha hs
  have h3 := Int.tmod_nonneg 4 hb0
  have h4 := Int.tmod_lt_of_pos b (show (0 : Int) < 4 by omega)
  unfold apL
  rw [W_id (n := b) (by omega) (by omega), W_id (by omega) (by omega)]
  split <;> omega
theorem apM_ok (i : ByteArray) : 0 ≤ apM i ∧ apM i ≤ (i.size : Int) ∧ apM i ≤ 10 := by
  unfold apM
  split <;> omega
theorem apS_size {a b : Int} {i s : ByteArray} (h : 0 ≤ a) (ha : a < 256) (_ : 0 ≤ b) (_ : b < 256) (hs : (s.size : Int) ≤ 1099511627776) : (ap1 a i s).size ≤ s.size + 10 ∧ (apS a b i s).size ≤ 2 * s.size + 10 := by
  have h1 := apA_ok s h ha hs
  have h2 := apM_ok i
  unfold apS ap1
  simp only [ByteArray.size_append, ByteArray.size_extract]
  omega
theorem oAp (args : List PV) (d : DT PV) (r : PV) (h : cAp args = some d) (hr : d.run = some r) : PCall Tryd.prog 15 args r := by
  unfold cAp at h; split at h
  · rename_i a b i s
    cases h
    obtain ⟨h1, rfl⟩ := run_br hr
    simp only [Bool.and_eq_true, decide_eq_true_eq, oR6] at h1
    obtain ⟨⟨⟨a0, a1⟩, b0, b1⟩, hs⟩ := h1
    refine (runP_sound ok18 (n := 60) ?_).2
    have g1 := apA_ok s a0 a1 hs
    have g2 := apM_ok i
    have g3 := apL_ok s a0 a1 b0 b1 hs
    have g4 := apS_size (i := i) a0 a1 b0 b1 hs
    have hmx : IntKind.i64.max = 9223372036854775807 := rfl
    have e1 : (((s.extract (0 : Int).toNat (apA a s).toNat).size + (i.extract (0 : Int).toNat (apM i).toNat).size : Nat) : Int) ≤ 9223372036854775807 := by
      have := g4.1
      unfold ap1 at this
      rw [ByteArray.size_append] at this
      omega
    have e2 : (((ap1 a i s).size + (s.extract (apL a b s).toNat (s.size : Int).toNat).size : Nat) : Int) ≤ 9223372036854775807 := by
      have := g4.2
      unfold apS at this
      rw [ByteArray.size_append] at this
      omega
    rw [qAp, W_id (n := (s.size : Int) + 1) (by omega) (by omega), hmx, decide_eq_false (show ¬ (s.size : Int) + 1 = 0 by omega), decide_eq_true g1.1, decide_eq_true g1.2, decide_eq_true g2.1, decide_eq_true g2.2.1,
      decide_eq_false (show ¬ (((s.extract (0 : Int).toNat (apA a s).toNat).size + (i.extract (0 : Int).toNat (apM i).toNat).size : Nat) : Int) > 9223372036854775807 by omega), decide_eq_true g3.1, decide_eq_true g3.2, decide_eq_true (Int.le_refl (s.size : Int)),
      decide_eq_false (show ¬ (((ap1 a i s).size + (s.extract (apL a b s).toNat (s.size : Int).toNat).size : Nat) : Int) > 9223372036854775807 by omega)]
    rfl
  · cases h
noncomputable def E19 : EnvK := E18.addF 15 cAp
theorem ok19 : EnvOK Tryd.prog E19.env := ok18.addF eAp oAp
end Go.Ht
/- Braille: BrailleRead's first loop. -/
namespace Go.Ht
open Go.Hx Go.Proofs
noncomputable def E20 : EnvK := E19.addN 6 4 [(8, 5, 1)]
theorem ok20 : EnvOK Tryd.prog E20.env := ok19.addN 6 4 [(8, 5, 1)]
def shS : S1 := ⟨81, [(0, .lst 3), (4, .ptr 0 1 0 0), (7, .bool), (8, .sl 1), (24, .lst 5), (25, I64), (26, I64)], [.one 32 3 .pv, .many 5 1]⟩
abbrev lSm (f : Bool) (ls : List PV) (h : Bool) (n m : Nat) (f2 : Bool) (xs : List PV) (len k : Int) (p : PV) (nl : Bool) (es : List PV) : LS := ([.l f ls, .b h, .n n, .n m, .l f2 xs, .i len, .i k], [.p p, .l nl es])
noncomputable abbrev xSm (f : Bool) (ls : List PV) (h : Bool) (n m : Nat) (p : PV) (nl : Bool) (es : List PV) : PX × List PV × List Row := (.exit 0, tm 81 [(0, .lst f 3 ls), (4, .ptr 0 1 0 0), (7, bv h), (8, .sl 1 n 0 m)], (shS.put (lSm f ls h n m true [] 0 0 p nl es)).2)
def room1 (es : List PV) (n l : Nat) : Bool := decide (es.length = n) && decide (n = l) && decide ((n + 1) * 1 ≤ 140737488355328)
def lo6 (x : Int) : Int := bits .and .u8 x 63
theorem qSm (f : Bool) (ls : List PV) (h : Bool) (n m : Nat) (f2 : Bool) (xs : List PV) (len k : Int) (p : PV) (nl : Bool) (es : List PV) : runB Tryd.prog E20 60 6 (lpb Tryd.f6 4) [0, 4, 7, 8, 24, 25, 26] [0, 4, 7, 8] (shS.put (lSm f ls h n m f2 xs len k p nl es)).1 (shS.put (lSm f ls h n m f2 xs len k p nl es)).2 =
  bif decide (k < len) then bif inr xs k then bif room1 es n m then some (.normal, shS.put (lSm f ls h (n + 1) (n + 1) f2 xs len (W (k + 1)) p (nl && false) (es ++ [cv (lo6 (gI xs k))]))) else none else none
  else some (xSm f ls h n m p nl es) := by kernel_rfl
/-- The cells of some bytes, from a place on. -/
def smL (xs : List PV) (k : Nat) : Nat → List PV
  | 0 => []
  | m + 1 => cv (lo6 (gI xs (k : Int))) :: smL xs (k + 1) m
theorem smL_len (xs : List PV) : ∀ (m k : Nat), (smL xs k m).length = m
  | 0, _ => rfl
  | m + 1, k => by simp [smL, smL_len xs m (k + 1)]
def pSm : LS → Bool
  | ([.l _ _, .b _, .n n, .n m, .l _ xs, .i len, .i k], [.p _, .l nl es]) => decide (n = es.length) && decide (m = es.length) && decide (len = (xs.length : Int)) && decide (len ≤ 1000) && decide (0 ≤ k) && decide (k ≤ len) && decide ((es.length : Int) ≤ k) && (nl == decide (es.length = 0))
  | _ => false
noncomputable def outS (f : Bool) (ls : List PV) (h : Bool) (p : PV) (r : List PV) : DT (PX × List PV × List Row) := .br (r.length == 0) (.leaf (xSm f ls h 0 0 p true [])) (.leaf (xSm f ls h r.length r.length p false r))
noncomputable def fSm : LS → DT (PX × List PV × List Row)
  | ([.l f ls, .b h, .n _, .n _, .l _ xs, .i len, .i k], [.p p, .l _ es]) => outS f ls h p (es ++ smL xs k.toNat (len - k).toNat)
  | _ => .no
def mSm : LS → Nat
  | ([.l _ _, .b _, .n _, .n _, .l _ _, .i len, .i k], [.p _, .l _ _]) => (len - k).toNat
  | _ => 0
theorem run_br2 {α : Type} {b : Bool} {a c r : α} (h : (DT.br b (.leaf a) (.leaf c)).run = some r) : r = bif b then a else c := by
  cases b <;> exact (Option.some.inj h).symm
theorem sSm : ∀ s r, pSm s = true → (fSm s).run = some r → r.1 ≠ .normal ∧ (runB Tryd.prog E20 60 6 (lpb Tryd.f6 4) [0, 4, 7, 8, 24, 25, 26] [0, 4, 7, 8] (shS.put s).1 (shS.put s).2 = some r ∨
      ∃ s', runB Tryd.prog E20 60 6 (lpb Tryd.f6 4) [0, 4, 7, 8, 24, 25, 26] [0, 4, 7, 8] (shS.put s).1 (shS.put s).2 = some (.normal, shS.put s') ∧ pSm s' = true ∧ mSm s' < mSm s ∧ (fSm s').run = some r) := by
  intro t r hp hr
  unfold pSm at hp; split at hp
  · rename_i f ls h n m f2 xs len k p nl es
    simp only [Bool.and_eq_true, decide_eq_true_eq, beq_iff_eq] at hp
    obtain ⟨⟨⟨⟨⟨⟨⟨rfl, rfl⟩, rfl⟩, h4⟩, h5⟩, h6⟩, h7⟩, h8⟩ := hp
    have hr' : (outS f ls h p (es ++ smL xs k.toNat ((xs.length : Int) - k).toNat)).run = some r := hr
    refine ⟨by have h0 := run_br2 hr'; rw [h0]; cases ((es ++ smL xs k.toNat ((xs.length : Int) - k).toNat).length == 0) <;> simp, ?_⟩
    rw [show shS.put ([.l f ls, .b h, .n es.length, .n es.length, .l f2 xs, .i (xs.length : Int), .i k], [.p p, .l nl es]) = shS.put (lSm f ls h es.length es.length f2 xs (xs.length : Int) k p nl es) from rfl, qSm]
    by_cases hk : k < (xs.length : Int)
    · rw [decide_eq_true hk, cond_true, inr_of h5 hk, show room1 es es.length es.length = true by unfold room1; simp; omega, W_id (by omega) (by omega), Bool.and_false]
      obtain ⟨m, hm⟩ : ∃ m, ((xs.length : Int) - k).toNat = m + 1 := ⟨((xs.length : Int) - k).toNat - 1, by omega⟩
      have hm2 : ((xs.length : Int) - (k + 1)).toNat = m := by omega
      rw [hm] at hr'
      simp only [smL, Int.toNat_of_nonneg h5] at hr'
      refine .inr ⟨lSm f ls h (es.length + 1) (es.length + 1) f2 xs (xs.length : Int) (k + 1) p false (es ++ [cv (lo6 (gI xs k))]), rfl, by simp [pSm]; omega, by simp only [mSm]; omega, ?_⟩
      rw [← hr']
      show (outS f ls h p (es ++ [cv (lo6 (gI xs k))] ++ smL xs (k + 1).toNat ((xs.length : Int) - (k + 1)).toNat)).run = _
      rw [hm2, List.append_assoc, show (k + 1).toNat = k.toNat + 1 by omega]; rfl
    · rw [show ((xs.length : Int) - k).toNat = 0 by omega] at hr'
      simp only [smL, List.append_nil] at hr'
      refine .inl ?_
      rw [decide_eq_false hk, ← hr', h8]
      cases es with
      | nil => rfl
      | cons x es => rfl
  · cases hp
noncomputable def E21 : EnvK := E20.addW 6 4 [0, 4, 7, 8, 24, 25, 26] [] shS pSm fSm
theorem ok21 : EnvOK Tryd.prog E21.env :=
  ok20.addW (n := 60) Tryd.func6 (show Tryd.f6.body = some (bod Tryd.f6) by kernel_rfl) (show (loops (bod Tryd.f6)).filter (fun b => rid b == 4) = [lpb Tryd.f6 4] by kernel_rfl) [0, 4, 7, 8, 24, 25, 26] [0, 4, 7, 8] [] shS mSm sSm
end Go.Ht
/- Braille: BrailleRead as a plain function. -/
namespace Go.Ht
open Go.Hx Go.Proofs
def chkR (x : ByteArray) (k : Option PV) : Option PV :=
  bif decide ((x.size : Int) ≤ 68719476736) then
    bif !decide (rdE x = 0) then (bif !((rdS x).toList == ByteArray.empty.toList) then fB else k)
    else bif decide (((rdS x).size : Int) ≤ 1099511627776) then
      bif !decide (wrE (rdS x) = 0) then fB else bif !((wrS (rdS x)).toList == x.toList) then fB else bif !rgtB (rdS x) then fB else k
    else none
  else none
def mn40 (xs : List PV) : Int := if (40 : Int) < (xs.length : Int) then 40 else (xs.length : Int)
def xs6 (xs : List PV) : List PV := (xs.take (mn40 xs).toNat).drop (0 : Int).toNat
def sm6 (xs : List PV) : List PV := [] ++ smL (xs6 xs) (0 : Int).toNat (((xs6 xs).length : Int) - 0).toNat
def mi6 (ls : List PV) (a b : Int) (k : Option PV) : Option PV := bif decide (((mdS ls).size : Int) ≤ 1099511627776) then bif oR6 a && oR6 b && decide (((wrS (mdS ls)).size : Int) ≤ 1099511627776) then k else none else none
set_option maxRecDepth 100000 in
theorem qL6 (f g : Bool) (ls xs : List PV) (a b : Int) (i : ByteArray) : runP Tryd.prog E21 60 6 [.lst f 3 ls, .agg [cv a, cv b, sv i], .lst g 5 xs] =
  bif decide ((0 : Int) ≤ 0) && decide (0 ≤ mn40 xs) && decide (mn40 xs ≤ (xs.length : Int)) then
  bif pSm (lSm f ls true 0 0 true (xs6 xs) ((xs6 xs).length : Int) 0 .any true []) then
  bif (sm6 xs).length == 0 then mi6 ls a b (chkR (apS a b i (wrS (mdS ls))) (chkR ByteArray.empty (some (bv true))))
  else mi6 ls a b (bif ((sm6 xs).length == (sm6 xs).length) && true then chkR (apS a b i (wrS (mdS ls))) (chkR (strB (((sm6 xs).drop 0).take (sm6 xs).length)) (some (bv true))) else none)
  else none else none := by kernel_rfl
theorem wrS_size (t : ByteArray) : (wrS t).size ≤ 3 * t.size := by
  unfold wrS
  cases rgtB t with
  | true =>
    have h := aL_len (t := t) t.size 0 (by omega) (by omega)
    have e : (wrB t).size = (aL t 0).length := by
      unfold wrB strB strOfNums
      simp [ByteArray.size]
    rw [cond_true, e]
    omega
  | false => exact Nat.zero_le _
theorem dT_size (x : ByteArray) : (dT x).size ≤ 4 * x.size := by
  have h := dcF_len x.size x false [] (Nat.le_refl _)
  rw [List.length_nil] at h
  have e : (dT x).size = (dc x false []).2.1.length := by unfold dT; simp [ByteArray.size]
  rw [e]
  unfold dc
  omega
theorem chkR_ok {x : ByteArray} {k : Option PV} (h : (x.size : Int) ≤ 1000000) : chkR x k = k := by
  have hd := dT_size x
  unfold chkR rdE rdS
  rw [decide_eq_true (show (x.size : Int) ≤ 68719476736 by omega), cond_true]
  cases hr : rdOk x with
  | false => simp [toList_beq]
  | true =>
    unfold rdOk at hr
    simp only [Bool.and_eq_true, decide_eq_true_eq] at hr
    obtain ⟨_, h2, h3⟩ := hr
    have e1 : wrE (dT x) = 0 := by unfold wrE; rw [h2]; rfl
    have e2 : wrS (dT x) = x := by unfold wrS; rw [h2]; exact h3
    have h4 : ((dT x).size : Int) ≤ 1099511627776 := by omega
    simp [e1, e2, h2, h4]
theorem strB_size (es : List PV) : (strB es).size = es.length := by
  unfold strB strOfNums
  simp [ByteArray.size]
theorem law6 (f g : Bool) (ls xs : List PV) {a b : Int} (i : ByteArray) (ha : oR6 a = true) (hb : oR6 b = true) : runP Tryd.prog E21 60 6 [.lst f 3 ls, .agg [cv a, cv b, sv i], .lst g 5 xs] = some (bv true) := by
  have hm : 0 ≤ mn40 xs ∧ mn40 xs ≤ (xs.length : Int) ∧ mn40 xs ≤ 40 := by unfold mn40; split <;> omega
  have hx : (xs6 xs).length ≤ 40 := by unfold xs6; simp; omega
  have hs : (sm6 xs).length ≤ 40 := by unfold sm6; rw [List.nil_append, smL_len]; omega
  have hp : pSm (lSm f ls true 0 0 true (xs6 xs) ((xs6 xs).length : Int) 0 .any true []) = true := by
    simp only [pSm, Bool.and_eq_true, decide_eq_true_eq, List.length_nil]
    refine ⟨⟨⟨⟨⟨⟨⟨trivial, trivial⟩, trivial⟩, by omega⟩, by omega⟩, by omega⟩, by omega⟩, by rfl⟩
  have h1 := mdS_size ls
  have h2 := wrS_size (mdS ls)
  simp only [oR6, Bool.and_eq_true, decide_eq_true_eq] at ha hb
  have h3 := (apS_size (i := i) (s := wrS (mdS ls)) ha.1 ha.2 hb.1 hb.2 (by omega)).2
  have mi : ∀ k, mi6 ls a b k = k := by
    intro k
    unfold mi6
    rw [decide_eq_true (show ((mdS ls).size : Int) ≤ 1099511627776 by omega), decide_eq_true (show ((wrS (mdS ls)).size : Int) ≤ 1099511627776 by omega), show oR6 a = true by simp [oR6, ha], show oR6 b = true by simp [oR6, hb]]
    rfl
  rw [qL6, decide_eq_true (Int.le_refl _), decide_eq_true hm.1, decide_eq_true hm.2.1, hp, mi, mi, chkR_ok (by omega), chkR_ok (by decide), beq_self_eq_true, chkR_ok (by omega), chkR_ok (by rw [strB_size, List.length_take, List.length_drop]; omega)]
  cases (sm6 xs).length == 0 <;> rfl
theorem oR6_of {n : Int} (h : 0 ≤ n ∧ n ≤ 255) : oR6 n = true := by simp only [oR6, Bool.and_eq_true, decide_eq_true_eq]; omega
theorem law6P (f g : Bool) (ls xs : List PV) {a b : Int} (i : ByteArray) (ha : oR6 a = true) (hb : oR6 b = true) : PCall Tryd.prog 6 [.lst f 3 ls, .agg [cv a, cv b, sv i], .lst g 5 xs] (bv true) := (runP_sound ok21 (n := 60) (law6 f g ls xs i ha hb)).2
end Go.Ht
/- Braille: what Write writes, on lists of numbers. -/
namespace Go.Ht
open Go.Hx Go.Proofs
/-- The bytes of a text, as numbers. -/
def nl (t : ByteArray) : List Int := t.data.toList.map fun b => (b.toNat : Int)
theorem nl_len (t : ByteArray) : (nl t).length = t.size := by unfold nl; rw [List.length_map]; rfl
theorem nl_inj {s t : ByteArray} (h : nl s = nl t) : s = t := by
  unfold nl at h
  have : s.data.toList = t.data.toList := by
    refine List.map_inj_right (fun a b hab => ?_) |>.1 h
    exact UInt8.toNat_inj.1 (by omega)
  obtain ⟨a⟩ := s; obtain ⟨b⟩ := t
  exact congrArg _ (Array.ext' this)
theorem nl_tl {t : ByteArray} {i : Int} : nl (tlB t i) = (nl t).drop i.toNat := by
  unfold nl tlB
  rw [ByteArray.data_extract, Array.toList_extract, ← List.map_drop]
  congr 1
  rw [List.extract_eq_drop_take', Int.toNat_natCast]
  rw [List.take_of_length_le]
  show _ ≤ t.data.size
  simp
theorem nl_app (s t : ByteArray) : nl (s ++ t) = nl s ++ nl t := by
  unfold nl
  rw [ByteArray.data_append, Array.toList_append, List.map_append]
theorem gt_nl {t : ByteArray} {i : Int} : gt t i = (nl t).getD i.toNat 0 := by
  unfold gt nl
  rw [List.getD_eq_getElem?_getD, List.getElem?_map, Array.getElem?_toList, Array.getD_eq_getD_getElem?]
  cases t.data[i.toNat]? <;> rfl
def pfx (w l : List Int) : Bool := w.isPrefixOf l
theorem pfx_iff {w l : List Int} : pfx w l = true ↔ w <+: l := List.isPrefixOf_iff_prefix
theorem hasP_iff {s w : ByteArray} : hasP s w = true ↔ nl w <+: nl s := by
  unfold hasP
  rw [Bool.and_eq_true, decide_eq_true_eq, beq_iff_eq, ByteArray.toList_eq, ByteArray.toList_eq, ByteArray.data_extract, Array.toList_extract, Int.toNat_natCast]
  have e1 : (s.data.toList.extract 0 w.size) = s.data.toList.take w.size := by
    rw [List.extract_eq_take_drop]; simp
  rw [e1]
  constructor
  · rintro ⟨_, h⟩
    refine ⟨(s.data.toList.drop w.size).map fun b => (b.toNat : Int), ?_⟩
    unfold nl
    rw [← h, ← List.map_append, List.take_append_drop]
  · rintro ⟨r, h⟩
    have hl := congrArg List.length h
    rw [List.length_append, nl_len, nl_len] at hl
    refine ⟨by omega, ?_⟩
    have h2 : (nl s).take w.size = nl w := by rw [← h, ← nl_len w]; exact List.take_left
    unfold nl at h2
    rw [← List.map_take] at h2
    exact List.map_inj_right (fun a b hab => UInt8.toNat_inj.1 (by omega)) |>.1 h2
theorem hasP_pfx (s w : ByteArray) : hasP s w = pfx (nl w) (nl s) := by
  rw [Bool.eq_iff_iff, hasP_iff, pfx_iff]
def wixL (l : List Int) : Int → List ByteArray → Int
  | _, [] => -1
  | n, w :: ws => bif pfx (nl w) l then n else wixL l (n + 1) ws
theorem ixW_wix (s : ByteArray) : ∀ (n : Int) (l : List ByteArray), ixW s n l = wixL (nl s) n l
  | _, [] => rfl
  | n, w :: ws => by rw [ixW, wixL, hasP_pfx, ixW_wix s (n + 1) ws]
/-- The first word that a text begins with; -1 for none. -/
def wix (l : List Int) : Int := wixL l 0 wds
theorem wAt_wix {t : ByteArray} {i : Int} : wAt t i = wix ((nl t).drop i.toNat) := by
  unfold wAt wix
  rw [ixW_wix, nl_tl]
/-- The bytes of a word. -/
def wd (j : Nat) : List Int := nl (wds.getD j ByteArray.empty)
theorem wixL_cases (l : List Int) : ∀ (n : Int) (ws : List ByteArray), 0 ≤ n → wixL l n ws = -1 ∨ ∃ (j : Nat) (w : ByteArray), wixL l n ws = n + j ∧ ws[j]? = some w ∧ nl w <+: l
  | _, [], _ => .inl rfl
  | n, w :: ws, hn => by
    rw [wixL]
    cases h : pfx (nl w) l with
    | true => exact .inr ⟨0, w, by simp, rfl, pfx_iff.1 h⟩
    | false =>
      rw [cond_false]
      rcases wixL_cases l (n + 1) ws (by omega) with g | ⟨j, w', g1, g2, g3⟩
      · exact .inl g
      · exact .inr ⟨j + 1, w', by omega, by simpa using g2, g3⟩
theorem wix_cases (l : List Int) : wix l = -1 ∨ ∃ j : Nat, j < 11 ∧ wix l = j ∧ wd j <+: l := by
  rcases wixL_cases l 0 wds (by omega) with g | ⟨j, w, g1, g2, g3⟩
  · exact .inl g
  · refine .inr ⟨j, (List.getElem?_eq_some_iff.1 g2).1, by unfold wix; omega, ?_⟩
    unfold wd
    rw [List.getD_eq_getElem?_getD, g2]; exact g3
theorem wd_all : (List.range 11).all (fun j => decide (2 ≤ (wd j).length) && decide ((wd j).length ≤ 4) && decide (lw (j : Int) = ((wd j).length : Int)) && !dgB ((wd j).getLastD 0) && (wd j).all (fun c => decide (97 ≤ c) && decide (c ≤ 122))) = true := by decide
theorem wd_facts {j : Nat} (h : j < 11) : 2 ≤ (wd j).length ∧ (wd j).length ≤ 4 ∧ lw (j : Int) = ((wd j).length : Int) ∧ dgB ((wd j).getLastD 0) = false ∧ ∀ c, c ∈ wd j → 97 ≤ c ∧ c ≤ 122 := by
  have h0 := List.all_eq_true.1 wd_all j (by simpa using h)
  simp only [Bool.and_eq_true, decide_eq_true_eq, Bool.not_eq_true'] at h0
  obtain ⟨⟨⟨⟨h1, h2⟩, h3⟩, h4⟩, h5⟩ := h0
  refine ⟨h1, h2, h3, h4, fun c hc => ?_⟩
  have := List.all_eq_true.1 h5 c hc
  simpa using this
/-- What is written for a text of which digits may stand before. -/
def wrL : Nat → Bool → List Int → List Int
  | 0, _, _ => []
  | _ + 1, _, [] => []
  | n + 1, f, c :: r => bif decide (wix (c :: r) ≥ 0) then gt shB (wix (c :: r)) :: wrL n false ((c :: r).drop (lw (wix (c :: r))).toNat) else clsL c f ++ wrL n (dgB c) r
theorem wrL_fuel : ∀ (n m : Nat) (f : Bool) (l : List Int), l.length ≤ n → l.length ≤ m → wrL n f l = wrL m f l
  | 0, 0, _, _, _, _ => rfl
  | 0, m + 1, f, l, h, _ => by
    have : l = [] := List.eq_nil_of_length_eq_zero (by omega)
    subst this; rfl
  | n + 1, 0, f, l, _, h => by
    have : l = [] := List.eq_nil_of_length_eq_zero (by omega)
    subst this; rfl
  | n + 1, m + 1, f, [], _, _ => rfl
  | n + 1, m + 1, f, c :: r, h1, h2 => by
    rw [wrL, wrL]
    simp only [List.length_cons] at h1 h2
    rw [wrL_fuel n m (dgB c) r (by omega) (by omega)]
    rcases wix_cases (c :: r) with g | ⟨j, hj, g1, g2⟩
    · rw [g]; rfl
    · obtain ⟨w1, w2, w3, w4, w5⟩ := wd_facts hj
      rw [g1, w3, wrL_fuel n m false _ (by simp; omega) (by simp; omega)]
def wrl (f : Bool) (l : List Int) : List Int := wrL l.length f l
theorem wrl_nil (f : Bool) : wrl f [] = [] := rfl
theorem wrl_none {f : Bool} {c : Int} {r : List Int} (h : wix (c :: r) = -1) : wrl f (c :: r) = clsL c f ++ wrl (dgB c) r := by
  show wrL (r.length + 1) f (c :: r) = _
  rw [wrL, h]; rfl
theorem wrl_word {f : Bool} {c : Int} {r s : List Int} {j : Nat} (hj : j < 11) (h : wix (c :: r) = j) (hs : c :: r = wd j ++ s) : wrl f (c :: r) = gt shB j :: wrl false s := by
  obtain ⟨w1, w2, w3, w4, w5⟩ := wd_facts hj
  show wrL (r.length + 1) f (c :: r) = _
  rw [wrL, h, w3, Int.toNat_natCast, decide_eq_true (show (j : Int) ≥ 0 by omega), cond_true, hs, List.drop_left]
  have := congrArg List.length hs
  rw [List.length_cons, List.length_append] at this
  unfold wrl
  rw [wrL_fuel r.length s.length false s (by omega) (Nat.le_refl _)]
def aft (t : ByteArray) (i : Int) : Bool := decide (0 < i) && dgB (gt t (i - 1))
theorem aL_wrl (t : ByteArray) : ∀ (m : Nat) (i : Int), 0 ≤ i → ((t.size : Int) - i).toNat ≤ m → aL t i = wrl (aft t i) ((nl t).drop i.toNat)
  | 0, i, h0, h => by rw [aL_end h0 (by omega), List.drop_of_length_le (by rw [nl_len]; omega)]; rfl
  | m + 1, i, h0, h => by
    by_cases hi : i < (t.size : Int)
    · have hl : i.toNat < (nl t).length := by rw [nl_len]; omega
      have hd : (nl t).drop i.toNat = gt t i :: (nl t).drop (i.toNat + 1) := by
        rw [List.drop_eq_getElem_cons hl, gt_nl, List.getD_eq_getElem?_getD, List.getElem?_eq_getElem hl]; rfl
      rw [aL_step h0 hi]
      unfold chL nxI
      rw [wAt_wix]
      rcases wix_cases ((nl t).drop i.toNat) with g | ⟨j, hj, g1, s, g2⟩
      · rw [g]
        have ih := aL_wrl t m (i + 1) (by omega) (by omega)
        have e : (i + 1).toNat = i.toNat + 1 := by omega
        rw [hd] at g ⊢
        rw [wrl_none g, show decide ((-1 : Int) ≥ 0) = false by decide, cond_false, cond_false, ih, e]
        have e2 : aft t (i + 1) = dgB (gt t i) := by
          unfold aft
          rw [decide_eq_true (show 0 < i + 1 by omega), show i + 1 - 1 = i by omega]; rfl
        rw [e2]; rfl
      · obtain ⟨w1, w2, w3, w4, w5⟩ := wd_facts hj
        rw [g1, w3, decide_eq_true (show (j : Int) ≥ 0 by omega), cond_true, cond_true]
        have ih := aL_wrl t m (i + ((wd j).length : Int)) (by omega) (by omega)
        have e : (i + ((wd j).length : Int)).toNat = i.toNat + (wd j).length := by omega
        rw [ih, e, ← List.drop_drop, ← g2, List.drop_left]
        have e2 : aft t (i + ((wd j).length : Int)) = false := by
          unfold aft
          rw [gt_nl, show (i + ((wd j).length : Int) - 1).toNat = i.toNat + ((wd j).length - 1) by omega]
          have : (nl t).getD (i.toNat + ((wd j).length - 1)) 0 = (wd j).getLastD 0 := by
            rw [List.getD_eq_getElem?_getD, ← List.getElem?_drop, ← g2, List.getElem?_append_left (by omega), List.getLastD_eq_getLast?, List.getLast?_eq_getElem?]
          rw [this, w4, Bool.and_false]
        rw [e2]
        rw [hd] at g1 g2
        rw [g2, wrl_word hj g1 g2.symm]; rfl
    · rw [aL_end h0 hi, List.drop_of_length_le (by rw [nl_len]; omega)]; rfl
theorem aL_eq (t : ByteArray) : aL t 0 = wrl false (nl t) := aL_wrl t t.size 0 (by omega) (by omega)
end Go.Ht
/- Braille: the reference's small functions: digit, letters, short, sign, contraction, cells. -/
namespace Go.Ht
open Go.Hx Go.Proofs
def lrL : List PV := (nl ltB).map iv
def srL : List PV := (nl shB).map iv
def cLr : List PV → Option PV | [] => some (.lst false 3 lrL) | _ => none
def cSr : List PV → Option PV | [] => some (.lst false 3 srL) | _ => none
def cWl : List PV → Option PV | [] => some (.lst false 9 wdL) | _ => none
theorem oLr (args : List PV) (r : PV) (h : cLr args = some r) : Hx.Enters Tryd.prog 46 ∧ PCall Tryd.prog 46 args r := by
  unfold cLr at h; split at h
  · cases h; exact runP_sound ok21 (n := 30) (by kernel_rfl)
  · cases h
theorem oSr (args : List PV) (r : PV) (h : cSr args = some r) : Hx.Enters Tryd.prog 36 ∧ PCall Tryd.prog 36 args r := by
  unfold cSr at h; split at h
  · cases h; exact runP_sound ok21 (n := 30) (by kernel_rfl)
  · cases h
theorem oWl (args : List PV) (r : PV) (h : cWl args = some r) : Hx.Enters Tryd.prog 20 ∧ PCall Tryd.prog 20 args r := by
  unfold cWl at h; split at h
  · cases h; exact runP_sound ok21 (n := 30) (by kernel_rfl)
  · cases h
theorem q45 (n : Int) : runP Tryd.prog E21 20 45 [cv n] = bif decide (n ≥ 48) then some (bv (decide (n ≤ 57))) else some (bv false) := by kernel_rfl
theorem o45 (args : List PV) (r : PV) (h : cDg args = some r) : Hx.Enters Tryd.prog 45 ∧ PCall Tryd.prog 45 args r := by
  unfold cDg at h; split at h
  · rename_i n; cases h
    refine runP_sound ok21 (n := 20) ?_
    rw [q45]
    unfold dgB
    show _ = some (bv (decide (n ≥ 48) && decide (n ≤ 57)))
    cases decide (n ≥ 48) <;> rfl
  · cases h
def sgV (c : Int) : Int := bif decide (c = 32) then 0 else bif decide (c = 44) then 2 else bif decide (c = 39) then 4 else bif decide (c = 45) then 36 else bif decide (c = 46) then 50 else -1
theorem q47 (c : Int) : runP Tryd.prog E21 20 47 [cv c] = bif decide (c = 32) then some (iv 0) else bif decide (c = 44) then some (iv 2) else bif decide (c = 39) then some (iv 4) else bif decide (c = 45) then some (iv 36) else bif decide (c = 46) then some (iv 50) else some (iv (-1)) := by kernel_rfl
def cSg : List PV → Option PV | [.val (.int .u8 c)] => some (iv (sgV c)) | _ => none
theorem oSg (args : List PV) (r : PV) (h : cSg args = some r) : Hx.Enters Tryd.prog 47 ∧ PCall Tryd.prog 47 args r := by
  unfold cSg at h; split at h
  · rename_i c; cases h
    refine runP_sound ok21 (n := 20) ?_
    rw [q47]
    unfold sgV
    cases decide (c = 32) <;> cases decide (c = 44) <;> cases decide (c = 39) <;> cases decide (c = 45) <;> cases decide (c = 46) <;> rfl
  · cases h
noncomputable def F1 : EnvK := ((((E21.addO 46 cLr).addO 36 cSr).addO 20 cWl).addO 45 cDg).addO 47 cSg
theorem okf1 : EnvOK Tryd.prog F1.env := ((((ok21.addO oLr).addO oSr).addO oWl).addO o45).addO oSg
/-! contraction -/
def shC : S1 := ⟨35, [(0, .str), (3, .lst 9), (4, I64)], []⟩
abbrev lC (s : ByteArray) (f : Bool) (ws : List PV) (k : Int) : LS := ([.s s, .l f ws, .i k], [])
noncomputable abbrev xC (r : PV) : List PV := tm 35 [(2, r)]
def wK (k : Int) : ByteArray := ((wdL.getD k.toNat .any).cellAt 0).getS
theorem qC (s : ByteArray) (f : Bool) (k : Int) : runB Tryd.prog F1 60 35 (lpb Tryd.f35 3) [0, 3, 4] [2] (shC.put (lC s f wdL k)).1 (shC.put (lC s f wdL k)).2 =
  bif decide (k < 11) then bif decide (0 ≤ k) && decide (k < 11) then bif decide ((s.size : Int) ≥ ((wK k).size : Int)) then
    bif decide (0 ≤ k) && decide (k < 11) then bif decide ((0 : Int) ≤ 0) && decide (0 ≤ ((wK k).size : Int)) && decide (((wK k).size : Int) ≤ (s.size : Int)) then bif decide (0 ≤ k) && decide (k < 11) then
    bif (s.extract (0 : Int).toNat ((wK k).size : Int).toNat).toList == (wK k).toList then some (.ret, xC (iv k), []) else some (.normal, shC.put (lC s f wdL (W (k + 1)))) else none else none else none
    else some (.normal, shC.put (lC s f wdL (W (k + 1)))) else none else some (.exit 0, xC .any, []) := by kernel_rfl
theorem wK_eq {k : Nat} (h : k < 11) : wds[k]? = some (wK k) := by
  match k, h with
  | 0, _ => rfl
  | 1, _ => rfl
  | 2, _ => rfl
  | 3, _ => rfl
  | 4, _ => rfl
  | 5, _ => rfl
  | 6, _ => rfl
  | 7, _ => rfl
  | 8, _ => rfl
  | 9, _ => rfl
  | 10, _ => rfl
def ixC (s : ByteArray) (k : Int) : Int := ixW s k (wds.drop k.toNat)
theorem ixC_step {s : ByteArray} {k : Int} (h0 : 0 ≤ k) (h : k < 11) : ixC s k = bif hasP s (wK k) then k else ixC s (k + 1) := by
  have hk : k.toNat < 11 := by omega
  have e := wK_eq hk
  rw [Int.toNat_of_nonneg h0] at e
  unfold ixC
  have hl : k.toNat < wds.length := hk
  rw [List.drop_eq_getElem_cons hl, ixW, show (k + 1).toNat = k.toNat + 1 by omega]
  have : wds[k.toNat]'hl = wK k := by
    rw [List.getElem?_eq_getElem hl] at e
    exact Option.some.inj e
  rw [this]
def pC : LS → Bool
  | ([.s _, .l _ ws, .i k], []) => eqS ws wds && decide (0 ≤ k) && decide (k ≤ 11)
  | _ => false
noncomputable def fC : LS → DT (PX × List PV × List Row)
  | ([.s s, .l _ _, .i k], []) => .br (decide (ixC s k ≥ 0)) (.leaf (.ret, xC (iv (ixC s k)), [])) (.leaf (.exit 0, xC .any, []))
  | _ => .no
def mC : LS → Nat
  | ([.s _, .l _ _, .i k], []) => (11 - k).toNat
  | _ => 0
theorem sC : ∀ s r, pC s = true → (fC s).run = some r → r.1 ≠ .normal ∧ (runB Tryd.prog F1 60 35 (lpb Tryd.f35 3) [0, 3, 4] [2] (shC.put s).1 (shC.put s).2 = some r ∨
      ∃ s', runB Tryd.prog F1 60 35 (lpb Tryd.f35 3) [0, 3, 4] [2] (shC.put s).1 (shC.put s).2 = some (.normal, shC.put s') ∧ pC s' = true ∧ mC s' < mC s ∧ (fC s').run = some r) := by
  intro t r hp hr
  unfold pC at hp; split at hp
  · rename_i s f ws k
    simp only [Bool.and_eq_true, decide_eq_true_eq] at hp
    obtain ⟨⟨h1, h2⟩, h3⟩ := hp
    obtain rfl := eqS_eq h1
    have hr' := run_br2 hr
    refine ⟨by rw [hr']; cases decide (ixC s k ≥ 0) <;> simp, ?_⟩
    rw [show shC.put ([.s s, .l f (wds.map sv), .i k], []) = shC.put (lC s f wdL k) from rfl, qC]
    by_cases hk : k < 11
    · have hst := ixC_step (s := s) h2 hk
      rw [decide_eq_true hk, decide_eq_true h2]
      simp only [cond_true, Bool.and_self]
      have next : hasP s (wK k) = false → (fC (lC s f wdL (k + 1))).run = some r := by
        intro hh
        rw [hh, cond_false] at hst
        have e : (fC (lC s f wdL (k + 1))).run = (fC ([L1.s s, L1.l f (List.map sv wds), L1.i k], [])).run := by
          show (DT.br (decide (ixC s (k + 1) ≥ 0)) (.leaf (PX.ret, xC (iv (ixC s (k + 1))), ([] : List Row))) (.leaf (PX.exit 0, xC .any, []))).run = (DT.br (decide (ixC s k ≥ 0)) (.leaf (PX.ret, xC (iv (ixC s k)), ([] : List Row))) (.leaf (PX.exit 0, xC .any, []))).run
          rw [hst]
        rw [e]; exact hr
      by_cases hz : (s.size : Int) ≥ ((wK k).size : Int)
      · rw [decide_eq_true hz, decide_eq_true (Int.le_refl _), decide_eq_true (show 0 ≤ ((wK k).size : Int) by omega)]
        simp only [cond_true, Bool.and_self]
        have hP : hasP s (wK k) = ((s.extract (0 : Int).toNat ((wK k).size : Int).toNat).toList == (wK k).toList) := by
          unfold hasP
          rw [decide_eq_true hz, Bool.true_and]; rfl
        rw [← hP]
        cases hh : hasP s (wK k) with
        | true =>
          rw [hh, cond_true] at hst
          refine .inl ?_
          rw [hr', hst, decide_eq_true (show k ≥ 0 by omega)]; rfl
        | false =>
          refine .inr ⟨lC s f wdL (k + 1), by rw [cond_false, W_id (by omega) (by omega)], ?_, by simp only [mC]; omega, next hh⟩
          simp only [pC, Bool.and_eq_true, decide_eq_true_eq]
          exact ⟨⟨eqS_w, by omega⟩, by omega⟩
      · have hh : hasP s (wK k) = false := by unfold hasP; rw [decide_eq_false hz]; rfl
        rw [decide_eq_false hz]
        refine .inr ⟨lC s f wdL (k + 1), by rw [cond_false, W_id (by omega) (by omega)], ?_, by simp only [mC]; omega, next hh⟩
        simp only [pC, Bool.and_eq_true, decide_eq_true_eq]
        exact ⟨⟨eqS_w, by omega⟩, by omega⟩
    · obtain rfl : k = 11 := by omega
      refine .inl ?_
      rw [hr']; rfl
  · cases hp
noncomputable def F2 : EnvK := F1.addW 35 3 [0, 3, 4] [] shC pC fC
theorem okf2 : EnvOK Tryd.prog F2.env :=
  okf1.addW (n := 60) Tryd.func35 (show Tryd.f35.body = some (bod Tryd.f35) by kernel_rfl) (show (loops (bod Tryd.f35)).filter (fun b => rid b == 3) = [lpb Tryd.f35 3] by kernel_rfl) [0, 3, 4] [2] [] shC mC sC
theorem qCo (s : ByteArray) : runP Tryd.prog F2 60 35 [sv s] = bif pC (lC s false wdL 0) then bif decide (ixC s 0 ≥ 0) then some (iv (ixC s 0)) else some (iv (-1)) else none := by kernel_rfl
def cCo : List PV → Option PV | [.val (.string s)] => some (iv (ixW s 0 wds)) | _ => none
theorem oCo (args : List PV) (r : PV) (h : cCo args = some r) : Hx.Enters Tryd.prog 35 ∧ PCall Tryd.prog 35 args r := by
  unfold cCo at h; split at h
  · rename_i s; cases h
    refine runP_sound okf2 (n := 60) ?_
    have hp : pC (lC s false wdL 0) = true := by
      simp only [pC, Bool.and_eq_true, decide_eq_true_eq]
      exact ⟨⟨eqS_w, by omega⟩, by omega⟩
    rw [qCo, hp, cond_true]
    have e : ixC s 0 = ixW s 0 wds := rfl
    rw [e]
    rcases ixW_has s 0 wds (by omega) with g | ⟨j, w, g1, _, _⟩
    · rw [g]; rfl
    · rw [decide_eq_true (by omega)]; rfl
  · cases h
noncomputable def F3 : EnvK := F2.addO 35 cCo
theorem okf3 : EnvOK Tryd.prog F3.env := okf2.addO oCo
end Go.Ht
/- Braille: the reference's cells of one character. -/
namespace Go.Ht
open Go.Hx Go.Proofs
def gL (z : Int) (k : Int → Option PV) : Option PV := bif decide (0 ≤ z) && decide (z < 26) then k ((lrL.getD z.toNat .any).cellAt 0).getI else none
def ou (l : List PV) : Option PV := some (.lst false 3 l)
def ceD (c : Int) (f : Bool) : Option PV :=
  bif dgB c then gL ((W (W (B8 (c - 48)) + 9)).tmod 10) fun x => bif f then ou [iv x] else ou [iv 60, iv x]
  else bif decide (sgV c ≥ 0) then ou [iv (sgV c)] else gL (B8 (c.tdiv 16)) fun x => gL (c.tmod 16) fun y => ou [iv 8, iv x, iv y]
def ceB (c : Int) (f : Bool) : Option PV :=
  bif decide (c ≥ 65) then (bif decide (c ≤ 90) then gL (B8 (c - 65)) fun x => ou [iv 32, iv x] else ceD c f) else ceD c f
def ceA (c : Int) (f : Bool) : Option PV :=
  bif decide (c ≥ 97) then (bif decide (c ≤ 122) then gL (B8 (c - 97)) fun x => bif decide (c ≤ 106) then (bif f then ou [iv 48, iv x] else ou [iv x]) else ou [iv x] else ceB c f) else ceB c f
set_option maxRecDepth 100000 in
theorem q37 (s : ByteArray) (k : Int) : runP Tryd.prog F3 60 37 [sv s, iv k] =
  bif decide (0 ≤ k) && decide (k < (s.size : Int)) then bif decide (k > 0) then (bif decide (0 ≤ W (k - 1)) && decide (W (k - 1) < (s.size : Int)) then ceA (gt s k) (dgB (gt s (W (k - 1)))) else none) else ceA (gt s k) false else none := by kernel_rfl
theorem gL_eq {z : Int} {k : Int → Option PV} (h0 : 0 ≤ z) (h1 : z < 26) : gL z k = k (gt ltB z) := by
  unfold gL
  rw [decide_eq_true h0, decide_eq_true h1]
  have : ((lrL.getD z.toNat .any).cellAt 0).getI = gt ltB z := by
    unfold lrL
    rw [gt_nl, List.getD_eq_getElem?_getD, List.getElem?_map, List.getD_eq_getElem?_getD]
    have hl : z.toNat < (nl ltB).length := by show z.toNat < 26; omega
    rw [List.getElem?_eq_getElem hl]; rfl
  rw [this]; rfl
theorem sg_all : (List.range 256).all (fun c => (decide (sgV (c : Int) ≥ 0) == decide (ixB (c : Int) ≥ 0)) && (!decide (ixB (c : Int) ≥ 0) || decide (gt scB (ixB (c : Int)) = sgV (c : Int)))) = true := by kernel_rfl
theorem ceA_eq {c : Int} (f : Bool) (c0 : 0 ≤ c) (c1 : c ≤ 255) : ceA c f = ou ((clsL c f).map iv) := by
  have hD : c < 97 ∨ c > 122 → c < 65 ∨ c > 90 → ceD c f = ou ((clsUL c f).map iv) := by
    intro _ _
    unfold ceD clsUL
    cases hd : dgB c with
    | true =>
      unfold dgB at hd
      rw [Bool.and_eq_true, decide_eq_true_eq, decide_eq_true_eq] at hd
      have e1 : B8 (c - 48) = c - 48 := B8_id (by omega) (by omega)
      have e2 : (W (W (B8 (c - 48)) + 9)).tmod 10 = (B8 (B8 (c - 48) + 9)).tmod 10 := by
        rw [e1, W_id (n := c - 48) (by omega) (by omega), W_id (by omega) (by omega), B8_id (by omega) (by omega)]
      have h1 : 0 ≤ (B8 (B8 (c - 48) + 9)).tmod 10 := by rw [e1, B8_id (by omega) (by omega)]; exact Int.tmod_nonneg 10 (by omega)
      have h2 : (B8 (B8 (c - 48) + 9)).tmod 10 < 10 := Int.tmod_lt_of_pos _ (by omega)
      rw [cond_true, cond_true, e2, gL_eq h1 (by omega)]
      cases f <;> rfl
    | false =>
      have hs := List.all_eq_true.1 sg_all c.toNat (by simp; omega)
      rw [Int.toNat_of_nonneg c0, Bool.and_eq_true, beq_iff_eq] at hs
      rw [cond_false, cond_false, hs.1]
      by_cases hi : ixB c ≥ 0
      · have h3 := hs.2
        rw [decide_eq_true hi, Bool.not_true, Bool.false_or, decide_eq_true_eq] at h3
        rw [decide_eq_true hi, cond_true, cond_true, h3]; rfl
      · rw [decide_eq_false hi, cond_false, cond_false]
        have h1 : c.tdiv 16 = c / 16 := Int.tdiv_eq_ediv_of_nonneg c0
        have h2 : c.tmod 16 = c % 16 := Int.tmod_eq_emod_of_nonneg c0
        rw [h1, h2, B8_id (by omega) (by omega), gL_eq (by omega) (by omega), gL_eq (by omega) (by omega)]; rfl
  have hB : c < 97 ∨ c > 122 → ceB c f = ou ((clsNL c f).map iv) := by
    intro hh
    unfold ceB clsNL
    show (bif decide (65 ≤ c) then _ else _) = _
    by_cases h1 : 65 ≤ c
    · rw [decide_eq_true h1, cond_true]
      by_cases h2 : c ≤ 90
      · rw [decide_eq_true h2, cond_true, B8_id (n := c - 65) (by omega) (by omega), gL_eq (by omega) (by omega)]; rfl
      · rw [decide_eq_false h2, cond_false, hD hh (by omega)]; rfl
    · rw [decide_eq_false h1, cond_false, hD hh (by omega)]; rfl
  unfold ceA clsL
  show (bif decide (97 ≤ c) then _ else _) = _
  by_cases h1 : 97 ≤ c
  · rw [decide_eq_true h1, cond_true]
    by_cases h2 : c ≤ 122
    · rw [decide_eq_true h2, cond_true, B8_id (n := c - 97) (by omega) (by omega), gL_eq (by omega) (by omega)]
      cases f <;> cases decide (c ≤ 106) <;> rfl
    · rw [decide_eq_false h2, cond_false, hB (by omega)]; rfl
  · rw [decide_eq_false h1, cond_false, hB (by omega)]; rfl
def cCl : List PV → Option (DT PV)
  | [.val (.string s), .val (.int .i64 k)] => some (.br (decide (0 ≤ k) && decide (k < (s.size : Int)) && decide ((s.size : Int) ≤ 4611686018427387904)) (.leaf (.lst false 3 ((oneL s k).map iv))) .no)
  | _ => none
theorem eCl : Hx.Enters Tryd.prog 37 := enters_of Tryd.func37 (show Tryd.f37.body = some (bod Tryd.f37) by kernel_rfl) (by kernel_rfl)
theorem oCl (args : List PV) (d : DT PV) (r : PV) (h : cCl args = some d) (hr : d.run = some r) : PCall Tryd.prog 37 args r := by
  unfold cCl at h; split at h
  · rename_i s k
    cases h
    obtain ⟨h1, rfl⟩ := run_br hr
    simp only [Bool.and_eq_true, decide_eq_true_eq] at h1
    obtain ⟨⟨k0, k1⟩, k2⟩ := h1
    refine (runP_sound okf3 (n := 60) ?_).2
    have g := gt_range s k
    rw [q37, decide_eq_true k0, decide_eq_true k1]
    unfold oneL
    by_cases h2 : k > 0
    · rw [decide_eq_true h2, W_id (by omega) (by omega), decide_eq_true (show 0 ≤ k - 1 by omega), decide_eq_true (show k - 1 < (s.size : Int) by omega)]
      exact ceA_eq _ g.1 g.2
    · rw [decide_eq_false h2]
      exact ceA_eq _ g.1 g.2
  · cases h
noncomputable def F4 : EnvK := F3.addF 37 cCl
theorem okf4 : EnvOK Tryd.prog F4.env := okf3.addF eCl oCl
end Go.Ht
/- Braille: the reference's Write: its loops. -/
namespace Go.Ht
open Go.Hx Go.Proofs
noncomputable def F5 : EnvK := F4.addN 12 6 [(5, 5, 1)]
theorem okf5 : EnvOK Tryd.prog F5.env := okf4.addN 12 6 [(5, 5, 1)]
def shI : S1 := ⟨61, [(0, .str), (5, .sl 0), (6, I64), (8, .lst 3), (9, I64)], [.many 5 1]⟩
abbrev lI (s : ByteArray) (n m : Nat) (k : Int) (f : Bool) (xs : List PV) (i : Int) (nl : Bool) (es : List PV) : LS := ([.s s, .n n, .n m, .i k, .l f xs, .i i], [.l nl es])
noncomputable abbrev xI (s : ByteArray) (n m : Nat) (k : Int) (nl : Bool) (es : List PV) : PX × List PV × List Row := (.exit 2, tm 61 [(0, sv s), (5, .sl 0 n 0 m), (6, iv k)], (shI.put (lI s n m k true [] 0 nl es)).2)
theorem qI (s : ByteArray) (n m : Nat) (k : Int) (f : Bool) (xs : List PV) (i : Int) (nl : Bool) (es : List PV) : runB Tryd.prog F5 60 12 (lpb Tryd.f12 14) [0, 5, 6, 8, 9] [0, 5, 6] (shI.put (lI s n m k f xs i nl es)).1 (shI.put (lI s n m k f xs i nl es)).2 =
  bif decide (i < (xs.length : Int)) then bif inr xs i then bif room1 es n m then some (.normal, shI.put (lI s (n + 1) (n + 1) k f xs (W (i + 1)) (nl && false) (es ++ [cv (B8 (gI xs i))]))) else none else none
  else some (xI s n m k nl es) := by kernel_rfl
def rmL (xs : List PV) (k : Nat) : Nat → List PV
  | 0 => []
  | m + 1 => cv (B8 (gI xs (k : Int))) :: rmL xs (k + 1) m
theorem rmL_len (xs : List PV) : ∀ (m k : Nat), (rmL xs k m).length = m
  | 0, _ => rfl
  | m + 1, k => by simp [rmL, rmL_len xs m (k + 1)]
def pI : LS → Bool
  | ([.s _, .n n, .n m, .i _, .l _ xs, .i i], [.l nl es]) => decide (n = es.length) && decide (m = es.length) && decide (0 ≤ i) && decide (i ≤ (xs.length : Int)) && decide ((xs.length : Int) ≤ 1000) && decide ((es.length : Int) ≤ 1000000000 + i) && (nl == decide (es.length = 0))
  | _ => false
noncomputable def outI (s : ByteArray) (k : Int) (r : List PV) : DT (PX × List PV × List Row) := .br (r.length == 0) (.leaf (xI s 0 0 k true [])) (.leaf (xI s r.length r.length k false r))
noncomputable def fI : LS → DT (PX × List PV × List Row)
  | ([.s s, .n _, .n _, .i k, .l _ xs, .i i], [.l _ es]) => outI s k (es ++ rmL xs i.toNat ((xs.length : Int) - i).toNat)
  | _ => .no
def mI : LS → Nat
  | ([.s _, .n _, .n _, .i _, .l _ xs, .i i], [.l _ _]) => ((xs.length : Int) - i).toNat
  | _ => 0
theorem sI : ∀ s r, pI s = true → (fI s).run = some r → r.1 ≠ .normal ∧ (runB Tryd.prog F5 60 12 (lpb Tryd.f12 14) [0, 5, 6, 8, 9] [0, 5, 6] (shI.put s).1 (shI.put s).2 = some r ∨
      ∃ s', runB Tryd.prog F5 60 12 (lpb Tryd.f12 14) [0, 5, 6, 8, 9] [0, 5, 6] (shI.put s).1 (shI.put s).2 = some (.normal, shI.put s') ∧ pI s' = true ∧ mI s' < mI s ∧ (fI s').run = some r) := by
  intro t r hp hr
  unfold pI at hp; split at hp
  · rename_i s n m k f xs i nl es
    simp only [Bool.and_eq_true, decide_eq_true_eq, beq_iff_eq] at hp
    obtain ⟨⟨⟨⟨⟨⟨rfl, rfl⟩, h3⟩, h4⟩, h5⟩, h6⟩, h7⟩ := hp
    have hr' : (outI s k (es ++ rmL xs i.toNat ((xs.length : Int) - i).toNat)).run = some r := hr
    refine ⟨by have h0 := run_br2 hr'; rw [h0]; cases ((es ++ rmL xs i.toNat ((xs.length : Int) - i).toNat).length == 0) <;> simp, ?_⟩
    rw [show shI.put ([.s s, .n es.length, .n es.length, .i k, .l f xs, .i i], [.l nl es]) = shI.put (lI s es.length es.length k f xs i nl es) from rfl, qI]
    by_cases hk : i < (xs.length : Int)
    · rw [decide_eq_true hk, cond_true, inr_of h3 hk, show room1 es es.length es.length = true by unfold room1; simp; omega, W_id (by omega) (by omega), Bool.and_false]
      obtain ⟨m, hm⟩ : ∃ m, ((xs.length : Int) - i).toNat = m + 1 := ⟨((xs.length : Int) - i).toNat - 1, by omega⟩
      have hm2 : ((xs.length : Int) - (i + 1)).toNat = m := by omega
      rw [hm] at hr'
      simp only [rmL, Int.toNat_of_nonneg h3] at hr'
      refine .inr ⟨lI s (es.length + 1) (es.length + 1) k f xs (i + 1) false (es ++ [cv (B8 (gI xs i))]), rfl, by simp [pI]; omega, by simp only [mI]; omega, ?_⟩
      rw [← hr']
      show (outI s k (es ++ [cv (B8 (gI xs i))] ++ rmL xs (i + 1).toNat ((xs.length : Int) - (i + 1)).toNat)).run = _
      rw [hm2, List.append_assoc, show (i + 1).toNat = i.toNat + 1 by omega]; rfl
    · rw [show ((xs.length : Int) - i).toNat = 0 by omega] at hr'
      simp only [rmL, List.append_nil] at hr'
      refine .inl ?_
      rw [decide_eq_false hk, ← hr', h7]
      cases es with
      | nil => rfl
      | cons x es => rfl
  · cases hp
noncomputable def F6 : EnvK := F5.addW 12 14 [0, 5, 6, 8, 9] [] shI pI fI
theorem okf6 : EnvOK Tryd.prog F6.env :=
  okf5.addW (n := 60) Tryd.func12 (show Tryd.f12.body = some (bod Tryd.f12) by kernel_rfl) (show (loops (bod Tryd.f12)).filter (fun b => rid b == 14) = [lpb Tryd.f12 14] by kernel_rfl) [0, 5, 6, 8, 9] [0, 5, 6] [] shI mI sI
/-! The outer loop. -/
def shO : S1 := ⟨61, [(0, .str), (5, .sl 0), (6, I64)], [.many 5 1]⟩
abbrev lO (s : ByteArray) (n m : Nat) (k : Int) (nl : Bool) (es : List PV) : LS := ([.s s, .n n, .n m, .i k], [.l nl es])
noncomputable abbrev xO (n m : Nat) (nl : Bool) (es : List PV) : PX × List PV × List Row := (.exit 0, tm 61 [(5, .sl 0 n 0 m)], (shO.put (lO .empty n m 0 nl es)).2)
def oneR (s : ByteArray) (k : Int) (es : List PV) : List PV := es ++ rmL ((oneL s k).map iv) (0 : Int).toNat ((((oneL s k).map iv).length : Int) - 0).toNat
set_option maxRecDepth 100000 in
theorem qO (s : ByteArray) (n m : Nat) (k : Int) (nl : Bool) (es : List PV) : runB Tryd.prog F6 60 12 (lpb Tryd.f12 6) [0, 5, 6] [5] (shO.put (lO s n m k nl es)).1 (shO.put (lO s n m k nl es)).2 =
  bif decide (k < (s.size : Int)) then bif decide (0 ≤ k) && decide (k ≤ (s.size : Int)) && decide ((s.size : Int) ≤ (s.size : Int)) then
    bif decide (ixW (tlB s k) 0 wds ≥ 0) then
      bif decide (0 ≤ ixW (tlB s k) 0 wds) && decide (ixW (tlB s k) 0 wds < 11) then bif room1 es n m then bif decide (0 ≤ ixW (tlB s k) 0 wds) && decide (ixW (tlB s k) 0 wds < 11) then
        some (.normal, shO.put (lO s (n + 1) (n + 1) (W (W (W (k + lw (ixW (tlB s k) 0 wds)) - 1) + 1)) (nl && false) (es ++ [cv (B8 (gI srL (ixW (tlB s k) 0 wds)))]))) else none else none else none
    else bif decide (0 ≤ k) && decide (k < (s.size : Int)) && decide ((s.size : Int) ≤ 4611686018427387904) then
      bif pI (lI s n m k false ((oneL s k).map iv) 0 nl es) then
        bif (oneR s k es).length == 0 then some (.normal, shO.put (lO s 0 0 (W (k + 1)) true [])) else some (.normal, shO.put (lO s (oneR s k es).length (oneR s k es).length (W (k + 1)) false (oneR s k es)))
      else none
    else none
  else none else some (xO n m nl es) := by kernel_rfl
end Go.Ht
/- Braille: the reference's Write as a contract. -/
namespace Go.Ht
open Go.Hx Go.Proofs
theorem gt_mem (s : ByteArray) (z : Int) : 0 ≤ gt s z ∧ gt s z ≤ 255 := gt_range s z
theorem clsL_range (c : Int) (f : Bool) : ∀ x, x ∈ clsL c f → 0 ≤ x ∧ x ≤ 255 := by
  intro x
  unfold clsL clsNL clsUL
  have h := gt_mem
  cases decide (97 ≤ c) && decide (c ≤ 122) <;> cases f && decide (c ≤ 106) <;> cases decide (65 ≤ c) && decide (c ≤ 90) <;> cases dgB c <;> cases f <;> cases decide (ixB c ≥ 0) <;>
    simp only [cond_true, cond_false, Bool.not_true, Bool.not_false, List.mem_cons, List.not_mem_nil, or_false] <;> intro hx <;> (first | (subst hx; exact h _ _) | (rcases hx with rfl | rfl | rfl <;> first | exact h _ _ | decide) | (rcases hx with rfl | rfl <;> first | exact h _ _ | decide))
theorem rmL_map : ∀ (L : List Int) (pre : List Int), (∀ x, x ∈ L → 0 ≤ x ∧ x ≤ 255) → rmL ((pre ++ L).map iv) pre.length L.length = L.map cv
  | [], _, _ => rfl
  | x :: L, pre, h => by
    have hx := h x (by simp)
    have ih := rmL_map L (pre ++ [x]) fun y hy => h y (by simp [hy])
    rw [List.append_assoc, List.length_append] at ih
    have e : gI ((pre ++ x :: L).map iv) (pre.length : Int) = x := by
      unfold gI
      rw [Int.toNat_natCast, List.getD_eq_getElem?_getD, List.getElem?_map, List.getElem?_append_right (Nat.le_refl _), Nat.sub_self]
      rfl
    show cv (B8 (gI ((pre ++ x :: L).map iv) (pre.length : Int))) :: rmL ((pre ++ x :: L).map iv) (pre.length + 1) L.length = _
    rw [e, B8_id hx.1 (by omega)]
    exact congrArg _ ih
theorem oneR_eq (s : ByteArray) (k : Int) (es : List PV) : oneR s k es = es ++ (oneL s k).map cv := by
  unfold oneR
  have h := rmL_map (oneL s k) [] (by unfold oneL; exact clsL_range _ _)
  rw [List.length_map, Int.sub_zero, Int.toNat_natCast]
  exact congrArg _ h
theorem gI_srL {z : Int} (h0 : 0 ≤ z) (h1 : z < 11) : gI srL z = gt shB z := by
  unfold gI srL
  rw [gt_nl, List.getD_eq_getElem?_getD, List.getElem?_map, List.getD_eq_getElem?_getD]
  have hl : z.toNat < (nl shB).length := by show z.toNat < 11; omega
  rw [List.getElem?_eq_getElem hl]; rfl
def pO : LS → Bool
  | ([.s s, .n n, .n m, .i k], [.l nl es]) => decide (n = es.length) && decide (m = es.length) && decide (0 ≤ k) && decide (k ≤ (s.size : Int)) && decide ((s.size : Int) ≤ 1000000) && decide ((es.length : Int) ≤ 3 * k) && (nl == decide (es.length = 0))
  | _ => false
noncomputable def outO (r : List PV) : DT (PX × List PV × List Row) := .br (r.length == 0) (.leaf (xO 0 0 true [])) (.leaf (xO r.length r.length false r))
noncomputable def fO : LS → DT (PX × List PV × List Row)
  | ([.s s, .n _, .n _, .i k], [.l _ es]) => outO (es ++ (aL s k).map cv)
  | _ => .no
def mO : LS → Nat
  | ([.s s, .n _, .n _, .i k], [.l _ _]) => ((s.size : Int) - k).toNat
  | _ => 0
theorem sO : ∀ s r, pO s = true → (fO s).run = some r → r.1 ≠ .normal ∧ (runB Tryd.prog F6 60 12 (lpb Tryd.f12 6) [0, 5, 6] [5] (shO.put s).1 (shO.put s).2 = some r ∨
      ∃ s', runB Tryd.prog F6 60 12 (lpb Tryd.f12 6) [0, 5, 6] [5] (shO.put s).1 (shO.put s).2 = some (.normal, shO.put s') ∧ pO s' = true ∧ mO s' < mO s ∧ (fO s').run = some r) := by
  intro t r hp hr
  unfold pO at hp; split at hp
  · rename_i s n m k nl es
    simp only [Bool.and_eq_true, decide_eq_true_eq, beq_iff_eq] at hp
    obtain ⟨⟨⟨⟨⟨⟨rfl, rfl⟩, h3⟩, h4⟩, h5⟩, h6⟩, h7⟩ := hp
    have hr' : (outO (es ++ (aL s k).map cv)).run = some r := hr
    refine ⟨by have h0 := run_br2 hr'; rw [h0]; cases ((es ++ (aL s k).map cv).length == 0) <;> simp, ?_⟩
    rw [show shO.put ([.s s, .n es.length, .n es.length, .i k], [.l nl es]) = shO.put (lO s es.length es.length k nl es) from rfl, qO]
    by_cases hk : k < (s.size : Int)
    · have hn := nxI_le h3 hk
      have hc := chL_len s k
      have hcp := chL_pos s k
      have hw := wAt_cases (t := s) h3 h4
      have go : ∀ es', es' = es ++ (chL s k).map cv → (∃ s', (some (PX.normal, shO.put (lO s es'.length es'.length (nxI s k) false es')) : Option (PX × List PV × List Row)) = some (.normal, shO.put s') ∧ pO s' = true ∧ mO s' < mO ([.s s, .n es.length, .n es.length, .i k], [.l nl es]) ∧ (fO s').run = some r) := by
        rintro es' rfl
        refine ⟨lO s _ _ (nxI s k) false _, rfl, ?_, ?_, ?_⟩
        · have hne : ¬ (es ++ (chL s k).map cv).length = 0 := by rw [List.length_append, List.length_map]; omega
          simp only [pO, Bool.and_eq_true, decide_eq_true_eq, beq_iff_eq]
          rw [decide_eq_false hne]
          refine ⟨⟨⟨⟨⟨⟨trivial, trivial⟩, by omega⟩, by omega⟩, h5⟩, ?_⟩, rfl⟩
          simp only [List.length_append, List.length_map]
          omega
        · show ((s.size : Int) - nxI s k).toNat < ((s.size : Int) - k).toNat
          omega
        · rw [← hr']
          show (outO (es ++ (chL s k).map cv ++ (aL s (nxI s k)).map cv)).run = _
          rw [aL_step h3 hk, List.map_append, List.append_assoc]
      rw [decide_eq_true hk, decide_eq_true h3, decide_eq_true h4, decide_eq_true (Int.le_refl _)]
      simp only [cond_true, Bool.and_self]
      rw [show ixW (tlB s k) 0 wds = wAt s k from rfl]
      rcases hw with g | ⟨g1, g2, g3, g4, g5⟩
      · have hch : chL s k = oneL s k := by unfold chL; rw [g]; rfl
        have hnx : nxI s k = k + 1 := by unfold nxI; rw [g]; rfl
        have hpI : pI (lI s es.length es.length k false ((oneL s k).map iv) 0 nl es) = true := by
          rw [hch] at hc
          simp only [pI, Bool.and_eq_true, decide_eq_true_eq, beq_iff_eq, List.length_map]
          exact ⟨⟨⟨⟨⟨⟨trivial, trivial⟩, by omega⟩, by omega⟩, by omega⟩, by omega⟩, h7⟩
        have hle : (oneR s k es).length = es.length + (chL s k).length := by rw [oneR_eq, ← hch, List.length_append, List.length_map]
        rw [g, show decide ((-1 : Int) ≥ 0) = false by decide, cond_false, decide_eq_true (show (s.size : Int) ≤ 4611686018427387904 by omega), hpI, W_id (by omega) (by omega)]
        simp only [cond_true]
        rw [show ((oneR s k es).length == 0) = false by rw [beq_eq_false_iff_ne]; omega, cond_false]
        have := go (oneR s k es) (by rw [oneR_eq, hch])
        rw [hnx] at this
        exact .inr this
      · have hch : chL s k = [gt shB (wAt s k)] := by unfold chL; rw [decide_eq_true g1]; rfl
        have hnx : nxI s k = k + lw (wAt s k) := by unfold nxI; rw [decide_eq_true g1]; rfl
        have hg := gt_range shB (wAt s k)
        rw [decide_eq_true (show wAt s k ≥ 0 from g1), decide_eq_true g2, show room1 es es.length es.length = true by unfold room1; simp; omega, gI_srL g1 g2, B8_id hg.1 (by omega), Bool.and_false,
          W_id (n := k + lw (wAt s k)) (by omega) (by omega), W_id (n := k + lw (wAt s k) - 1) (by omega) (by omega), W_id (n := k + lw (wAt s k) - 1 + 1) (by omega) (by omega), show k + lw (wAt s k) - 1 + 1 = nxI s k by omega]
        have hl : (es ++ [cv (gt shB (wAt s k))]).length = es.length + 1 := by simp
        have := go (es ++ [cv (gt shB (wAt s k))]) (by rw [hch]; rfl)
        rw [hl] at this
        exact .inr this
    · rw [aL_end h3 hk] at hr'
      simp only [List.map_nil, List.append_nil] at hr'
      refine .inl ?_
      rw [decide_eq_false hk, ← hr', h7]
      cases es with
      | nil => rfl
      | cons x es => rfl
  · cases hp
noncomputable def F7 : EnvK := F6.addW 12 6 [0, 5, 6] [] shO pO fO
theorem okf7 : EnvOK Tryd.prog F7.env :=
  okf6.addW (n := 60) Tryd.func12 (show Tryd.f12.body = some (bod Tryd.f12) by kernel_rfl) (show (loops (bod Tryd.f12)).filter (fun b => rid b == 6) = [lpb Tryd.f12 6] by kernel_rfl) [0, 5, 6] [5] [] shO mO sO
def eL (t : ByteArray) : List PV := [] ++ (aL t 0).map cv
set_option maxRecDepth 100000 in
theorem qRW (t : ByteArray) : runP Tryd.prog F7 60 12 [sv t] = bif decide ((t.size : Int) ≤ 1099511627776) then bif !goodB t 0 then some rFail else
  bif pO (lO t 0 0 0 true []) then bif (eL t).length == 0 then some (.tup [sv ByteArray.empty, iv 0]) else bif ((eL t).length == (eL t).length) && true then some (.tup [sv (strB (((eL t).drop 0).take (eL t).length)), iv 0]) else none else none else none := by kernel_rfl
theorem qRW' {t : ByteArray} (ht : (t.size : Int) ≤ 1000000) : runP Tryd.prog F7 60 12 [sv t] = some (.tup [sv (wrS t), iv (wrE t)]) := by
  have hp : pO (lO t 0 0 0 true []) = true := by
    simp only [pO, Bool.and_eq_true, decide_eq_true_eq, beq_iff_eq, List.length_nil]
    exact ⟨⟨⟨⟨⟨⟨trivial, trivial⟩, by omega⟩, by omega⟩, ht⟩, by omega⟩, rfl⟩
  rw [qRW, decide_eq_true (show (t.size : Int) ≤ 1099511627776 by omega), hp, ← good_right]
  unfold wrS wrE
  cases rgtB t with
  | false => rfl
  | true =>
    have e : strB (((eL t).drop 0).take (eL t).length) = wrB t := by
      rw [List.drop_zero, List.take_length]; rfl
    simp only [cond_true, cond_false, Bool.not_true, beq_self_eq_true, Bool.and_self, e]
    cases h : (eL t).length == 0 with
    | false => rfl
    | true =>
      have h0 : aL t 0 = [] := by
        have := beq_iff_eq.1 h
        unfold eL at this
        simpa using this
      have : wrB t = ByteArray.empty := by unfold wrB; rw [h0]; rfl
      rw [this]; rfl
def cRW : List PV → Option (DT PV)
  | [.val (.string t)] => some (.br (Nat.ble t.size 1000000) (.leaf (.tup [sv (wrS t), iv (wrE t)])) .no)
  | _ => none
theorem eRW : Hx.Enters Tryd.prog 12 := enters_of Tryd.func12 (show Tryd.f12.body = some (bod Tryd.f12) by kernel_rfl) (by kernel_rfl)
theorem oRW (args : List PV) (d : DT PV) (r : PV) (h : cRW args = some d) (hr : d.run = some r) : PCall Tryd.prog 12 args r := by
  unfold cRW at h; split at h
  · rename_i t
    cases h
    obtain ⟨h1, rfl⟩ := run_br hr
    have := Nat.le_of_ble_eq_true h1
    exact (runP_sound okf7 (n := 60) (qRW' (by omega))).2
  · cases h
noncomputable def F8 : EnvK := F7.addF 12 cRW
theorem okf8 : EnvOK Tryd.prog F8.env := okf7.addF eRW oRW
end Go.Ht
/- Braille: reading what was written gives the text back. -/
namespace Go.Ht
open Go.Hx Go.Proofs
def by8 (l : List Int) : List UInt8 := l.map fun c => UInt8.ofNat c.toNat
theorem by8_nl (t : ByteArray) : by8 (nl t) = t.data.toList := by
  unfold by8 nl
  rw [List.map_map]
  conv => rhs; rw [← List.map_id t.data.toList]
  apply List.map_congr_left
  intro b _
  show UInt8.ofNat ((b.toNat : Int)).toNat = b
  simp
theorem nl_strB {L : List Int} (h : ∀ x, x ∈ L → 0 ≤ x ∧ x ≤ 255) : nl (strB (L.map cv)) = L := by
  unfold nl strB strOfNums
  simp only [List.map_map]
  conv => rhs; rw [← List.map_id L]
  apply List.map_congr_left
  intro x hx
  have := h x hx
  show (((UInt8.ofNat x.toNat).toNat : Nat) : Int) = x
  rw [UInt8.toNat_ofNat', Nat.mod_eq_of_lt (by omega)]; omega
theorem wrl_range : ∀ (n : Nat) (f : Bool) (l : List Int) x, x ∈ wrL n f l → 0 ≤ x ∧ x ≤ 255
  | 0, _, _, x, h => by cases h
  | n + 1, f, [], x, h => by cases h
  | n + 1, f, c :: r, x, h => by
    rw [wrL] at h
    cases hd : decide (wix (c :: r) ≥ 0) with
    | true =>
      rw [hd, cond_true] at h
      rcases List.mem_cons.1 h with rfl | h
      · exact gt_range _ _
      · exact wrl_range n _ _ x h
    | false =>
      rw [hd, cond_false] at h
      rcases List.mem_append.1 h with h | h
      · exact clsL_range _ _ x h
      · exact wrl_range n _ _ x h
theorem nl_wrB (t : ByteArray) : nl (wrB t) = wrl false (nl t) := by
  unfold wrB
  rw [aL_eq]
  exact nl_strB (fun x hx => wrl_range _ _ _ x hx)
/-! What the reader makes of cells. -/
theorem let_all : (List.range 26).all (fun n => decide (ixIn ltB (gt ltB (n : Int)) = (n : Int))) = true := by kernel_rfl
theorem sho_all : (List.range 11).all (fun n => decide (ixIn ltB (gt shB (n : Int)) = -1) && decide (ixIn shB (gt shB (n : Int)) = (n : Int)) && decide ((wdB (n : Int)).data.toList = by8 (wd n))) = true := by kernel_rfl
theorem sig_all : (List.range 5).all (fun n => decide (ixIn ltB (gt scB (n : Int)) = -1) && decide (ixIn shB (gt scB (n : Int)) = -1) && decide (ixIn scB (gt scB (n : Int)) = (n : Int))) = true := by kernel_rfl
theorem sgn_all : (List.range 127).all (fun c => !decide (ixB (c : Int) ≥ 0) || (decide ((sgB.extract (ixB (c : Int)).toNat (ixB (c : Int) + 1).toNat).data.toList = [UInt8.ofNat c]) && !dgB (c : Int))) = true := by kernel_rfl
theorem ixL {n : Int} (h0 : 0 ≤ n) (h1 : n < 26) : ixIn ltB (gt ltB n) = n := by
  have h := List.all_eq_true.1 let_all n.toNat (by simp; omega)
  rw [Int.toNat_of_nonneg h0, decide_eq_true_eq] at h
  exact h
theorem chr_data {n : Int} (h0 : 0 ≤ n) (h1 : n < 128) : (chr n).data.toList = [UInt8.ofNat n.toNat] := by
  have hw : IntKind.i32.wrap n = n := by
    have e : IntKind.i32.wrap n = if (true && decide (n % 4294967296 ≥ 2147483648)) = true then n % 4294967296 - 4294967296 else n % 4294967296 := rfl
    rw [e, if_neg (by simp; omega)]; omega
  unfold chr Utf8.encode
  rw [hw]
  have hv : Utf8.valid n = true := by unfold Utf8.valid; simp; omega
  simp only [hv, if_true]
  rw [if_pos (show n.toNat < 0x80 by omega)]
theorem nl_size {s : ByteArray} {a : Int} {l : List Int} (h : nl s = a :: l) : isE s = false ∧ gt s 0 = a ∧ nl (tlB s 1) = l := by
  have hl := nl_len s
  rw [h, List.length_cons] at hl
  refine ⟨isE_false.2 (by omega), ?_, ?_⟩
  · rw [gt_nl, h]; rfl
  · rw [nl_tl, h]; rfl
/-- The next letter. -/
theorem le_of {s : ByteArray} {n m : Int} {l : List Int} (h : nl s = gt ltB n :: l) (h0 : 0 ≤ n) (h1 : n < 26) (hm : n < m) : leB s m = false ∧ leN s m = n ∧ nl (tlB s 1) = l := by
  obtain ⟨g1, g2, g3⟩ := nl_size h
  have hb : leB s m = false := by
    unfold leB
    rw [g1, g2, ixL h0 h1, decide_eq_false (show ¬ n < 0 by omega), decide_eq_false (show ¬ n ≥ m by omega)]; rfl
  refine ⟨hb, ?_, g3⟩
  unfold leN ix0
  rw [hb, g2, ixL h0 h1]; rfl
theorem sp_all : ([32, 48, 60, 8] : List Int).all (fun c => decide (ixIn ltB c = -1) && decide (ixIn shB c = -1) && decide (ixIn scB c = -1)) = true := by kernel_rfl
theorem sp_of {c : Int} (h : c ∈ ([32, 48, 60, 8] : List Int)) : ixIn ltB c = -1 ∧ ixIn shB c = -1 ∧ ixIn scB c = -1 := by
  have h := List.all_eq_true.1 sp_all c h
  simp only [Bool.and_eq_true, decide_eq_true_eq] at h
  exact ⟨h.1.1, h.1.2, h.2⟩
theorem no1 : decide ((-1 : Int) ≥ 0) = false := by decide
/-- The reader takes the text x off: one or more cells. -/
def Takes (f : Bool) (s : ByteArray) (x : List UInt8) (l : List Int) (g : Bool) : Prop :=
  isE s = false ∧ (nxV f (gt s 0) (tlB s 1)).1 = 0 ∧ (nxV f (gt s 0) (tlB s 1)).2.1.data.toList = x ∧ nl (nxV f (gt s 0) (tlB s 1)).2.2.1 = l ∧ (nxV f (gt s 0) (tlB s 1)).2.2.2 = g
theorem takes_letter {f : Bool} {s : ByteArray} {n : Int} {l : List Int} (h : nl s = gt ltB n :: l) (h0 : 0 ≤ n) (h1 : n < 26) (hf : f = false ∨ 10 ≤ n) : Takes f s [UInt8.ofNat (97 + n).toNat] l false := by
  obtain ⟨g1, g2, g3⟩ := nl_size h
  have e : nxV f (gt s 0) (tlB s 1) = (0, chr (W (97 + n)), tlB s 1, false) := by
    unfold nxV
    rw [g2, ixL h0 h1, decide_eq_true (show n ≥ 0 from h0)]
    rcases hf with rfl | hf
    · rfl
    · rw [decide_eq_false (show ¬ n < 10 by omega), Bool.and_false]; rfl
  refine ⟨g1, ?_, ?_, ?_, ?_⟩ <;> rw [e]
  · rw [W_id (by omega) (by omega)]; exact chr_data (by omega) (by omega)
  · exact g3
theorem takes_digit {s : ByteArray} {n : Int} {l : List Int} (h : nl s = gt ltB n :: l) (h0 : 0 ≤ n) (h1 : n < 10) : Takes true s [UInt8.ofNat (48 + (n + 1).tmod 10).toNat] l true := by
  obtain ⟨g1, g2, g3⟩ := nl_size h
  have t1 := Int.tmod_nonneg 10 (show 0 ≤ n + 1 by omega)
  have t2 := Int.tmod_lt_of_pos (n + 1) (show (0 : Int) < 10 by omega)
  have e : nxV true (gt s 0) (tlB s 1) = (0, chr (W (48 + (W (n + 1)).tmod 10)), tlB s 1, true) := by
    unfold nxV
    rw [g2, ixL h0 (by omega), decide_eq_true (show n ≥ 0 from h0), decide_eq_true h1]; rfl
  refine ⟨g1, ?_, ?_, ?_, ?_⟩ <;> rw [e]
  · rw [W_id (n := n + 1) (by omega) (by omega), W_id (by omega) (by omega)]; exact chr_data (by omega) (by omega)
  · exact g3
theorem takes_word {f : Bool} {s : ByteArray} {j : Nat} {l : List Int} (hj : j < 11) (h : nl s = gt shB (j : Int) :: l) : Takes f s (by8 (wd j)) l false := by
  obtain ⟨g1, g2, g3⟩ := nl_size h
  have a := List.all_eq_true.1 sho_all j (by simpa using hj)
  simp only [Bool.and_eq_true, decide_eq_true_eq] at a
  obtain ⟨⟨a1, a2⟩, a3⟩ := a
  have e : nxV f (gt s 0) (tlB s 1) = (0, wdB (j : Int), tlB s 1, false) := by
    unfold nxV
    rw [g2, a1, no1, a2, decide_eq_true (show (j : Int) ≥ 0 by omega)]; rfl
  refine ⟨g1, ?_, ?_, ?_, ?_⟩ <;> rw [e]
  · exact a3
  · exact g3
theorem takes_sign {f : Bool} {s : ByteArray} {c : Int} {l : List Int} (c0 : 0 ≤ c) (c1 : c < 127) (hi : ixB c ≥ 0) (h : nl s = gt scB (ixB c) :: l) : Takes f s [UInt8.ofNat c.toNat] l false := by
  obtain ⟨g1, g2, g3⟩ := nl_size h
  have hlt := ixB_lt c
  have a := List.all_eq_true.1 sig_all (ixB c).toNat (by simp; omega)
  rw [Int.toNat_of_nonneg hi] at a
  simp only [Bool.and_eq_true, decide_eq_true_eq] at a
  obtain ⟨⟨a1, a2⟩, a3⟩ := a
  have b := List.all_eq_true.1 sgn_all c.toNat (by simp; omega)
  rw [Int.toNat_of_nonneg c0, decide_eq_true hi, Bool.not_true, Bool.false_or, Bool.and_eq_true, decide_eq_true_eq] at b
  have e : nxV f (gt s 0) (tlB s 1) = (0, sgB.extract (ixB c).toNat (W (ixB c + 1)).toNat, tlB s 1, false) := by
    unfold nxV
    rw [g2, a1, a2, a3, no1, decide_eq_true hi]; rfl
  refine ⟨g1, ?_, ?_, ?_, ?_⟩ <;> rw [e]
  · rw [W_id (by omega) (by omega)]; exact b.1
  · exact g3
theorem takes_cap {f : Bool} {s : ByteArray} {n : Int} {l : List Int} (h : nl s = 32 :: gt ltB n :: l) (h0 : 0 ≤ n) (h1 : n < 26) : Takes f s [UInt8.ofNat (65 + n).toNat] l false := by
  obtain ⟨g1, g2, g3⟩ := nl_size h
  obtain ⟨s1, s2, s3⟩ := sp_of (c := 32) (by decide)
  obtain ⟨b1, b2, b3⟩ := le_of g3 h0 h1 (show n < 26 from h1)
  have e : nxV f (gt s 0) (tlB s 1) = (0, chr (W (65 + n)), tlB (tlB s 1) 1, false) := by
    unfold nxV
    rw [g2, s1, s2, s3, no1, b1, b2]; rfl
  refine ⟨g1, ?_, ?_, ?_, ?_⟩ <;> rw [e]
  · rw [W_id (by omega) (by omega)]; exact chr_data (by omega) (by omega)
  · exact b3
theorem takes_lmark {f : Bool} {s : ByteArray} {n : Int} {l : List Int} (h : nl s = 48 :: gt ltB n :: l) (h0 : 0 ≤ n) (h1 : n < 10) : Takes f s [UInt8.ofNat (97 + n).toNat] l false := by
  obtain ⟨g1, g2, g3⟩ := nl_size h
  obtain ⟨s1, s2, s3⟩ := sp_of (c := 48) (by decide)
  obtain ⟨b1, b2, b3⟩ := le_of g3 h0 (by omega) h1
  have e : nxV f (gt s 0) (tlB s 1) = (0, chr (W (97 + n)), tlB (tlB s 1) 1, false) := by
    unfold nxV
    rw [g2, s1, s2, s3, no1, b1, b2]; rfl
  refine ⟨g1, ?_, ?_, ?_, ?_⟩ <;> rw [e]
  · rw [W_id (by omega) (by omega)]; exact chr_data (by omega) (by omega)
  · exact b3
theorem takes_nmark {f : Bool} {s : ByteArray} {n : Int} {l : List Int} (h : nl s = 60 :: gt ltB n :: l) (h0 : 0 ≤ n) (h1 : n < 10) : Takes f s [UInt8.ofNat (48 + (n + 1).tmod 10).toNat] l true := by
  obtain ⟨g1, g2, g3⟩ := nl_size h
  obtain ⟨s1, s2, s3⟩ := sp_of (c := 60) (by decide)
  obtain ⟨b1, b2, b3⟩ := le_of g3 h0 (by omega) h1
  have t1 := Int.tmod_nonneg 10 (show 0 ≤ n + 1 by omega)
  have t2 := Int.tmod_lt_of_pos (n + 1) (show (0 : Int) < 10 by omega)
  have e : nxV f (gt s 0) (tlB s 1) = (0, chr (W (48 + (W (n + 1)).tmod 10)), tlB (tlB s 1) 1, true) := by
    unfold nxV
    rw [g2, s1, s2, s3, no1, b1, b2]; rfl
  refine ⟨g1, ?_, ?_, ?_, ?_⟩ <;> rw [e]
  · rw [W_id (n := n + 1) (by omega) (by omega), W_id (by omega) (by omega)]; exact chr_data (by omega) (by omega)
  · exact b3
theorem takes_other {f : Bool} {s : ByteArray} {a b : Int} {l : List Int} (h : nl s = 8 :: gt ltB a :: gt ltB b :: l) (a0 : 0 ≤ a) (a1 : a < 8) (b0 : 0 ≤ b) (b1 : b < 16) : Takes f s [UInt8.ofNat (16 * a + b).toNat] l false := by
  obtain ⟨g1, g2, g3⟩ := nl_size h
  obtain ⟨s1, s2, s3⟩ := sp_of (c := 8) (by decide)
  obtain ⟨p1, p2, p3⟩ := le_of g3 a0 (by omega) (show a < 16 by omega)
  obtain ⟨q1, q2, q3⟩ := le_of p3 b0 (by omega) b1
  have e : nxV f (gt s 0) (tlB s 1) = (0, chr (W (W (16 * a) + b)), tlB (tlB (tlB s 1) 1) 1, false) := by
    unfold nxV
    rw [g2, s1, s2, s3, no1, p1, p2, q1, q2]; rfl
  refine ⟨g1, ?_, ?_, ?_, ?_⟩ <;> rw [e]
  · rw [W_id (n := 16 * a) (by omega) (by omega), W_id (by omega) (by omega)]; exact chr_data (by omega) (by omega)
  · exact q3
end Go.Ht
/- Braille: Right on lists. -/
namespace Go.Ht
open Go.Hx Go.Proofs
theorem goodF_all (t : ByteArray) : ∀ (m : Nat) (i : Int), 0 ≤ i → ((t.size : Int) - i).toNat ≤ m → goodB t i = ((nl t).drop i.toNat).all fun c => !badC c
  | 0, i, h0, h => by rw [goodB_end h0 (by omega), List.drop_of_length_le (by rw [nl_len]; omega)]; rfl
  | m + 1, i, h0, h => by
    by_cases hi : i < (t.size : Int)
    · have hl : i.toNat < (nl t).length := by rw [nl_len]; omega
      have hd : (nl t).drop i.toNat = gt t i :: (nl t).drop (i.toNat + 1) := by
        rw [List.drop_eq_getElem_cons hl, gt_nl, List.getD_eq_getElem?_getD, List.getElem?_eq_getElem hl]; rfl
      rw [goodB_step h0 hi, hd, List.all_cons, goodF_all t m (i + 1) (by omega) (by omega), show (i + 1).toNat = i.toNat + 1 by omega]
      cases badC (gt t i) <;> rfl
    · rw [goodB_end h0 hi, List.drop_of_length_le (by rw [nl_len]; omega)]; rfl
theorem rgt_all (t : ByteArray) : rgtB t = (nl t).all fun c => !badC c := by
  rw [good_right, goodF_all t t.size 0 (by omega) (by omega)]; rfl
end Go.Ht
