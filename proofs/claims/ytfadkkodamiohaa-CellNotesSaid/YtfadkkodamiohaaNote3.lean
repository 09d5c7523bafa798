/-
  The example of reedbedlaw16, the contracts of errors.Is at the program's own errors and of cell.Wrap; no condition beyond those that each theorem states.
-/
import Derived.Test.YtfadkkodamiohaaNote2
import Derived.LaidEql
import Derived.Stop.Asserts
import Derived.RowKitTokens
import Derived.Handy
namespace Go.Proofs.Ytfadkkodamiohaa
open Go.RowKit Go.Rb Go.Extern.Stop Go.Stop Go.Extern
attribute [local irreducible] Go.wpQuiet

set_option maxHeartbeats 1000000 in
theorem awake_any (w : World) : Calls Try.prog 5 #[] w fun e w' => e = .returned (.bool true) ∧ Below w.heap.size w w' := by
  go_enter Try.func5, Try.ntmps5
  go_wp2
  go_ret
  refine ⟨rfl, ?_⟩
  repeat (first | exact below_al (Below.refl _ _) _ | refine Below.setCell ?_ (Nat.le_refl _) _)
/-- An errno as an error. -/
def eno (a : Int) : Value := .iface 30 (.int .i64 a)
/-- A wrapped one. -/
def wrp (p : Nat) : Value := .iface 45 (.pointer (some ⟨p, 0, none⟩))
theorem isTypeOf (v : Value) (w : World) : (Extern.ReflectliteType.typeOf #[.iface 30 v]).run Try.prog w = .ok (.iface 51 (.agg #[.pointer (some ⟨3, 30, none⟩)])) w := by kernel_rfl
/-- What the model runs for (rtype).Comparable. -/
def cmpM : Array Value → Sem Value := Extern.ReflectliteType.method fun t => do Extern.Rtype.noPackHeld "Comparable" t; pure (.bool (← typeInfo t).comparable)
theorem isComparable (w : World) : (cmpM #[.agg #[.pointer (some ⟨3, 30, none⟩)]]).run Try.prog w = .ok (.bool true) w := by kernel_rfl
theorem isMethodComparable (v : Value) (w : World) : (Go.method 211 51 v "Comparable").run Try.prog w = .ok (53, v) w := by kernel_rfl
theorem eql_eno (a b : Int) (w : World) : (binOp .eql 37 (.iface 30 (.int .i64 a)) (.iface 30 (.int .i64 b))).run Try.prog w = .ok (.bool (a == b)) w := by kernel_rfl
theorem noIsE (v : Value) (xT : TypeId) (w : World) : (Instr.typeAssert (.iface 30 v) xT 53 true).run Try.prog w = .ok (.tuple #[.nilIface, .bool false]) w := run_typeAssert_lacksB Try.underlying53 (by kernel_rfl) (by kernel_rfl) v xT w
theorem noUnwrapE (v : Value) (xT : TypeId) (w : World) : (Instr.typeAssert (.iface 30 v) xT 56 true).run Try.prog w = .ok (.tuple #[.nilIface, .bool false]) w := run_typeAssert_lacksB Try.underlying56 (by kernel_rfl) (by kernel_rfl) v xT w
theorem noUnwrapsE (v : Value) (xT : TypeId) (w : World) : (Instr.typeAssert (.iface 30 v) xT 58 true).run Try.prog w = .ok (.tuple #[.nilIface, .bool false]) w := run_typeAssert_lacksB Try.underlying58 (by kernel_rfl) (by kernel_rfl) v xT w
theorem noIsW (v : Value) (xT : TypeId) (w : World) : (Instr.typeAssert (.iface 45 v) xT 53 true).run Try.prog w = .ok (.tuple #[.nilIface, .bool false]) w := run_typeAssert_lacksB Try.underlying53 (by kernel_rfl) (by kernel_rfl) v xT w
theorem hasUnwrapW (v : Value) (xT : TypeId) (w : World) : (Instr.typeAssert (.iface 45 v) xT 56 true).run Try.prog w = .ok (.tuple #[.iface 45 v, .bool true]) w := run_typeAssert_hasB Try.underlying56 (by kernel_rfl) v xT w
theorem methodUnwrap (v : Value) (w : World) : (Go.method 211 45 v "Unwrap").run Try.prog w = .ok (49, v) w := by kernel_rfl
set_option maxHeartbeats 1000000 in
theorem is_eno (a b : Int) (w : World) : Calls Try.prog 15 #[eno a, eno b] w fun e w' => e = .returned (.bool (a == b)) ∧ w' = w := by
  have h8 := @run_callFunc_extern Try.prog 16 _ Extern.ReflectliteType.typeOf Try.func16 (by kernel_rfl) (by kernel_rfl) (by kernel_rfl) (by kernel_rfl)
  have h32 := @run_callFunc_extern Try.prog 53 _ cmpM Try.func53 (by kernel_rfl) (by kernel_rfl) (by kernel_rfl) (by kernel_rfl)
  have tT := isTypeOf
  have cT := isComparable
  have mR := isMethodComparable
  have heq := eql_eno a b
  have nE := noIsE
  have uE := noUnwrapE
  have vE := noUnwrapsE
  unfold eno
  obtain ⟨r, hr⟩ : ∃ r, (a == b) = r := ⟨_, rfl⟩
  rw [hr] at heq ⊢
  clear hr
  go_enter Try.func15, Try.ntmps15
  go_wp2
  refine wp_loop_rounds 1 ?_
  rw [rounds_succ]
  cases r
  all_goals
    go_wp2
    go_ret
    exact ⟨rfl, rfl⟩
set_option maxHeartbeats 1000000 in
theorem is_wrp (p : Nat) (a b : Int) (note : ByteArray) (w : World) (hp : Blk w p 42 #[.int .i64 a, .string note]) : Calls Try.prog 15 #[wrp p, eno b] w fun e w' => e = .returned (.bool (a == b)) ∧ w' = w := by
  have h8 := @run_callFunc_extern Try.prog 16 _ Extern.ReflectliteType.typeOf Try.func16 (by kernel_rfl) (by kernel_rfl) (by kernel_rfl) (by kernel_rfl)
  have h32 := @run_callFunc_extern Try.prog 53 _ cmpM Try.func53 (by kernel_rfl) (by kernel_rfl) (by kernel_rfl) (by kernel_rfl)
  have tT := isTypeOf
  have cT := isComparable
  have mR := isMethodComparable
  have heq := eql_eno a b
  have nE := noIsE
  have uE := noUnwrapE
  have vE := noUnwrapsE
  have nW := noIsW
  have uW := hasUnwrapW
  have mU := methodUnwrap
  have hty := run_eql_iface_types (P := Try.prog) 45 30 (.pointer (some ⟨p, 0, none⟩)) (.int .i64 b) Try.underlying37 (by decide) w
  have c0 := hp.cell 0
  simp only [List.getElem?_toArray, List.getElem?_cons_succ, List.getElem?_cons_zero] at c0
  clear hp
  unfold eno wrp
  obtain ⟨r, hr⟩ : ∃ r, (a == b) = r := ⟨_, rfl⟩
  rw [hr] at heq ⊢
  clear hr
  go_enter Try.func15, Try.ntmps15
  go_wp2
  refine wp_loop_rounds 2 ?_
  rw [rounds_succ]
  go_wp2
  rw [rounds_succ]
  cases r
  all_goals
    go_wp2
    go_ret
    exact ⟨rfl, rfl⟩
set_option maxHeartbeats 1000000 in
theorem wrap_none (a : Int) (w : World) (ha : (a == 0) = false) : Calls Try.prog 14 #[.int .i64 a, .string ⟨#[]⟩] w fun e w' => e = .returned (eno a) ∧ w' = w := by
  go_enter Try.func14, Try.ntmps14
  go_wp2
  go_ret
  exact ⟨rfl, rfl⟩
set_option maxHeartbeats 1000000 in
theorem wrap_some (a : Int) (note : ByteArray) (w : World) (ha : (a == 0) = false) (hn : note.toList.isEmpty = false) : Calls Try.prog 14 #[.int .i64 a, .string note] w fun e w' => e = .returned (wrp w.heap.size) ∧ Blk w' w.heap.size 42 #[.int .i64 a, .string note] ∧ Below w.heap.size w w' := by
  go_enter Try.func14, Try.ntmps14
  go_wp2
  go_ret
  exact ⟨rfl, Blk.new _ _ _, below_al (Below.refl _ _) _⟩
end Go.Proofs.Ytfadkkodamiohaa
