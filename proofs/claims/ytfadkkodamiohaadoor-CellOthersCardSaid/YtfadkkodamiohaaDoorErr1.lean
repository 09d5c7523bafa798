/-
  The example of reedbedlaw16, and the contracts of errors.Is at the program's own errors; no condition beyond those that each theorem states.
-/
import Derived.Test.YtfadkkodamiohaaDoorBase
import Derived.LaidEql
import Derived.Stop.Asserts
import Derived.RowKitTokens
import Derived.Handy
namespace Go.Proofs.YtfadkkodamiohaaDoor
open Go.RowKit Go.Rb Go.Extern.Stop Go.Stop Go.Extern
attribute [local irreducible] Go.wpQuiet

set_option maxHeartbeats 1000000 in
theorem awake_any (w : World) : Calls Tryd.prog 4 #[] w fun e w' => e = .returned (.bool true) ∧ Below w.heap.size w w' := by
  go_enter Tryd.func4, Tryd.ntmps4
  go_wp2
  go_ret
  refine ⟨rfl, ?_⟩
  repeat (first | exact below_al (Below.refl _ _) _ | refine Below.setCell ?_ (Nat.le_refl _) _)
/-- An errno as an error. -/
def eno (a : Int) : Value := .iface 22 (.int .i64 a)
/-- A wrapped one. -/
def wrp (p : Nat) : Value := .iface 36 (.pointer (some ⟨p, 0, none⟩))
theorem isTypeOf (v : Value) (w : World) : (Extern.ReflectliteType.typeOf #[.iface 22 v]).run Tryd.prog w = .ok (.iface 62 (.agg #[.pointer (some ⟨1, 22, none⟩)])) w := by kernel_rfl
/-- What the model runs for (rtype).Comparable. -/
def cmpM : Array Value → Sem Value := Extern.ReflectliteType.method fun t => do Extern.Rtype.noPackHeld "Comparable" t; pure (.bool (← typeInfo t).comparable)
theorem isComparable (w : World) : (cmpM #[.agg #[.pointer (some ⟨1, 22, none⟩)]]).run Tryd.prog w = .ok (.bool true) w := by kernel_rfl
theorem isMethodComparable (v : Value) (w : World) : (Go.method 186 62 v "Comparable").run Tryd.prog w = .ok (48, v) w := by kernel_rfl
theorem eql_eno (a b : Int) (w : World) : (binOp .eql 27 (.iface 22 (.int .i64 a)) (.iface 22 (.int .i64 b))).run Tryd.prog w = .ok (.bool (a == b)) w := by kernel_rfl
theorem noIsE (v : Value) (xT : TypeId) (w : World) : (Instr.typeAssert (.iface 22 v) xT 64 true).run Tryd.prog w = .ok (.tuple #[.nilIface, .bool false]) w := run_typeAssert_lacksB Tryd.underlying64 (by kernel_rfl) (by kernel_rfl) v xT w
theorem noUnwrapE (v : Value) (xT : TypeId) (w : World) : (Instr.typeAssert (.iface 22 v) xT 67 true).run Tryd.prog w = .ok (.tuple #[.nilIface, .bool false]) w := run_typeAssert_lacksB Tryd.underlying67 (by kernel_rfl) (by kernel_rfl) v xT w
theorem noUnwrapsE (v : Value) (xT : TypeId) (w : World) : (Instr.typeAssert (.iface 22 v) xT 69 true).run Tryd.prog w = .ok (.tuple #[.nilIface, .bool false]) w := run_typeAssert_lacksB Tryd.underlying69 (by kernel_rfl) (by kernel_rfl) v xT w
theorem noIsW (v : Value) (xT : TypeId) (w : World) : (Instr.typeAssert (.iface 36 v) xT 64 true).run Tryd.prog w = .ok (.tuple #[.nilIface, .bool false]) w := run_typeAssert_lacksB Tryd.underlying64 (by kernel_rfl) (by kernel_rfl) v xT w
theorem hasUnwrapW (v : Value) (xT : TypeId) (w : World) : (Instr.typeAssert (.iface 36 v) xT 67 true).run Tryd.prog w = .ok (.tuple #[.iface 36 v, .bool true]) w := run_typeAssert_hasB Tryd.underlying67 (by kernel_rfl) v xT w
theorem methodUnwrap (v : Value) (w : World) : (Go.method 186 36 v "Unwrap").run Tryd.prog w = .ok (41, v) w := by kernel_rfl
set_option maxHeartbeats 1000000 in
theorem is_eno (a b : Int) (w : World) : Calls Tryd.prog 7 #[eno a, eno b] w fun e w' => e = .returned (.bool (a == b)) ∧ w' = w := by
  have h8 := @run_callFunc_extern Tryd.prog 13 _ Extern.ReflectliteType.typeOf Tryd.func13 (by kernel_rfl) (by kernel_rfl) (by kernel_rfl) (by kernel_rfl)
  have h32 := @run_callFunc_extern Tryd.prog 48 _ cmpM Tryd.func48 (by kernel_rfl) (by kernel_rfl) (by kernel_rfl) (by kernel_rfl)
  have tT := isTypeOf
  have cT := isComparable
  have mR := isMethodComparable
  have heq := eql_eno a b
  have nE := noIsE
  have uE := noUnwrapE
  have vE := noUnwrapsE
  unfold eno
  obtain ⟨r, hr⟩ : ∃ r, (a == b) = r := ⟨_, rfl⟩
  rw [hr] at heq ⊢
  clear hr
  go_enter Tryd.func7, Tryd.ntmps7
  go_wp2
  refine wp_loop_rounds 1 ?_
  rw [rounds_succ]
  cases r
  all_goals
    go_wp2
    go_ret
    exact ⟨rfl, rfl⟩
end Go.Proofs.YtfadkkodamiohaaDoor
