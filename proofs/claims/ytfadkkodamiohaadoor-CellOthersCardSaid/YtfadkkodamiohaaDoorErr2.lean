/-
  The contracts of errors.As at nil and at an error of errors.New's make, at the two targets of cell.Unwrap: false; of cell.Unwrap and cell.Wrap; no condition beyond those that each theorem states.
-/
import Derived.Test.YtfadkkodamiohaaDoorErr1
namespace Go.Proofs.YtfadkkodamiohaaDoor
open Go.RowKit Go.Rb Go.Extern.Stop Go.Stop Go.Extern
attribute [local irreducible] Go.wpQuiet

set_option maxHeartbeats 1000000 in
theorem is_wrp (p : Nat) (a b : Int) (note : ByteArray) (w : World) (hp : Blk w p 40 #[.int .i64 a, .string note]) : Calls Tryd.prog 7 #[wrp p, eno b] w fun e w' => e = .returned (.bool (a == b)) ∧ w' = w := by
  have h8 := @run_callFunc_extern Tryd.prog 13 _ Extern.ReflectliteType.typeOf Tryd.func13 (by kernel_rfl) (by kernel_rfl) (by kernel_rfl) (by kernel_rfl)
  have h32 := @run_callFunc_extern Tryd.prog 48 _ cmpM Tryd.func48 (by kernel_rfl) (by kernel_rfl) (by kernel_rfl) (by kernel_rfl)
  have tT := isTypeOf
  have cT := isComparable
  have mR := isMethodComparable
  have heq := eql_eno a b
  have nE := noIsE
  have uE := noUnwrapE
  have vE := noUnwrapsE
  have nW := noIsW
  have uW := hasUnwrapW
  have mU := methodUnwrap
  have hty := run_eql_iface_types (P := Tryd.prog) 36 22 (.pointer (some ⟨p, 0, none⟩)) (.int .i64 b) Tryd.underlying27 (by decide) w
  have c0 := hp.cell 0
  simp only [List.getElem?_toArray, List.getElem?_cons_succ, List.getElem?_cons_zero] at c0
  clear hp
  unfold eno wrp
  obtain ⟨r, hr⟩ : ∃ r, (a == b) = r := ⟨_, rfl⟩
  rw [hr] at heq ⊢
  clear hr
  go_enter Tryd.func7, Tryd.ntmps7
  go_wp2
  refine wp_loop_rounds 2 ?_
  rw [rounds_succ]
  go_wp2
  rw [rounds_succ]
  cases r
  all_goals
    go_wp2
    go_ret
    exact ⟨rfl, rfl⟩
theorem as_nil (t : Value) (w : World) : Calls Tryd.prog 12 #[.nilIface, t] w fun e w' => e = .returned (.bool false) ∧ w' = w := by
  go_enter Tryd.func12, Tryd.ntmps12
  go_wp2
  go_ret
  exact ⟨rfl, rfl⟩
theorem rlm (z : Sem Value) (f : TypeId → Addr → Nat → Nat → Sem Value) (v : Value) :
    ReflectliteValue.method z f #[v] = (do match ← ReflectliteValue.parts v with | none => z | some (t, a, fl) => f t a fl (fl % 32)) := rfl
theorem methodKind (h : Value) (w : World) : (Go.method 188 62 (.agg #[h]) "Kind").run Tryd.prog w = .ok (35, h) w := by kernel_rfl
theorem methodElem (h : Value) (w : World) : (Go.method 188 62 (.agg #[h]) "Elem").run Tryd.prog w = .ok (49, .agg #[h]) w := by kernel_rfl
theorem methodImplements (h : Value) (w : World) : (Go.method 188 62 (.agg #[h]) "Implements").run Tryd.prog w = .ok (50, .agg #[h]) w := by kernel_rfl
theorem methodAssignableTo (h : Value) (w : World) : (Go.method 188 62 (.agg #[h]) "AssignableTo").run Tryd.prog w = .ok (47, .agg #[h]) w := by kernel_rfl
theorem typeOfS (v : Value) (w : World) : (ReflectliteType.typeOf #[.iface 42 v]).run Tryd.prog w = .ok (.iface 62 (.agg #[.pointer (some ⟨1, 42, none⟩)])) w := by kernel_rfl
theorem noAsS (v : Value) (xT : TypeId) (w : World) : (Instr.typeAssert (.iface 42 v) xT 74 true).run Tryd.prog w = .ok (.tuple #[.nilIface, .bool false]) w := run_typeAssert_lacksB Tryd.underlying74 (by kernel_rfl) (by kernel_rfl) v xT w
theorem noUnwrapS (v : Value) (xT : TypeId) (w : World) : (Instr.typeAssert (.iface 42 v) xT 67 true).run Tryd.prog w = .ok (.tuple #[.nilIface, .bool false]) w := run_typeAssert_lacksB Tryd.underlying67 (by kernel_rfl) (by kernel_rfl) v xT w
theorem noUnwrapsS (v : Value) (xT : TypeId) (w : World) : (Instr.typeAssert (.iface 42 v) xT 69 true).run Tryd.prog w = .ok (.tuple #[.nilIface, .bool false]) w := run_typeAssert_lacksB Tryd.underlying69 (by kernel_rfl) (by kernel_rfl) v xT w

/-! ### target 38 -/
theorem valueOfW (t : Addr) (w : World) : (ReflectliteValue.unpack (.iface 38 (.pointer (some t)))).run Tryd.prog w
    = .ok (.agg #[.pointer (some ⟨1, 38, none⟩), .pointer (some ⟨w.heap.size, 0, none⟩), .int .u64 150]) (w.alloc (.cells #[.pointer (some t)] 38)) := by kernel_rfl
theorem typeW (a : Addr) (w : World) : (ReflectliteValue.methodAny (ReflectliteValue.valueError "reflectlite.Value.Type" 0) (fun t _ _ _ => ReflectliteType.toType t) #[.agg #[.pointer (some ⟨1, 38, none⟩), .pointer (some a), .int .u64 150]]).run Tryd.prog w
    = .ok (.iface 62 (.agg #[.pointer (some ⟨1, 38, none⟩)])) w := by kernel_rfl
theorem kindW (w : World) : ((ReflectliteType.abiMethod fun t => Functor.map (fun a : Nat => Value.int IntKind.u8 (a : Int)) (Rtype.kind t)) #[.pointer (some ⟨1, 38, none⟩)]).run Tryd.prog w = .ok (.int .u8 22) w := by kernel_rfl
theorem kindEW (w : World) : ((ReflectliteType.abiMethod fun t => Functor.map (fun a : Nat => Value.int IntKind.u8 (a : Int)) (Rtype.kind t)) #[.pointer (some ⟨1, 36, none⟩)]).run Tryd.prog w = .ok (.int .u8 22) w := by kernel_rfl
theorem partsW (a : Addr) (w : World) : (ReflectliteValue.parts (.agg #[.pointer (some ⟨1, 38, none⟩), .pointer (some a), .int .u64 150])).run Tryd.prog w = .ok (some (38, a, 150)) w := by kernel_rfl
theorem isNilW (a p : Addr) (W : World) (ha : W.cell? a = some (.pointer (some p))) :
    (ReflectliteValue.method (ReflectliteValue.valueError "reflectlite.Value.IsNil" 0) ReflectliteValue.isNil #[.agg #[.pointer (some ⟨1, 38, none⟩), .pointer (some a), .int .u64 150]]).run Tryd.prog W = .ok (.bool false) W := by
  rw [rlm]
  simp only [Sem.run_bind, partsW, Result.andThen]
  simp [ReflectliteValue.isNil, loadVar, isAgg, underlying, Tryd.underlying38, ha, Result.andThen]
theorem elemW (w : World) : (ReflectliteType.method ReflectliteType.elem #[.agg #[.pointer (some ⟨1, 38, none⟩)]]).run Tryd.prog w = .ok (.iface 62 (.agg #[.pointer (some ⟨1, 36, none⟩)])) w := by kernel_rfl
theorem implementsW (w : World) : (ReflectliteType.relation "Implements" ReflectliteType.implements_ #[.agg #[.pointer (some ⟨1, 36, none⟩)], .iface 62 (.agg #[.pointer (some ⟨1, 27, none⟩)])]).run Tryd.prog w = .ok (.bool true) w := by kernel_rfl
theorem assignableW (w : World) : (ReflectliteType.relation "AssignableTo" ReflectliteType.assignableTo #[.agg #[.pointer (some ⟨1, 42, none⟩)], .iface 62 (.agg #[.pointer (some ⟨1, 36, none⟩)])]).run Tryd.prog w = .ok (.bool false) w := by kernel_rfl
set_option maxHeartbeats 4000000 in
theorem as_missW (e t : Addr) (w : World) (hg : w.cell? ⟨0, 0, none⟩ = some (.iface 62 (.agg #[.pointer (some ⟨1, 27, none⟩)]))) :
    Calls Tryd.prog 12 #[.iface 42 (.pointer (some e)), .iface 38 (.pointer (some t))] w fun ev w' => ev = .returned (.bool false) ∧ Below w.heap.size w w' := by
  have h6 := @run_callFunc_extern Tryd.prog 15 _ (fun args => ReflectliteValue.unpack (args.getD 0 (.tuple #[]))) Tryd.func15 (by kernel_rfl) (by kernel_rfl) (by kernel_rfl) (by kernel_rfl)
  have h7 := @run_callFunc_extern Tryd.prog 16 _ (ReflectliteValue.methodAny (ReflectliteValue.valueError "reflectlite.Value.Type" 0) (fun t _ _ _ => ReflectliteType.toType t)) Tryd.func16 (by kernel_rfl) (by kernel_rfl) (by kernel_rfl) (by kernel_rfl)
  have h8 := @run_callFunc_extern Tryd.prog 17 _ (ReflectliteValue.method (ReflectliteValue.valueError "reflectlite.Value.IsNil" 0) ReflectliteValue.isNil) Tryd.func17 (by kernel_rfl) (by kernel_rfl) (by kernel_rfl) (by kernel_rfl)
  have h27 := @run_callFunc_extern Tryd.prog 35 _ (ReflectliteType.abiMethod fun t => do pure (.int .u8 (← Rtype.kind t))) Tryd.func35 (by kernel_rfl) (by kernel_rfl) (by kernel_rfl) (by kernel_rfl)
  have h37 := @run_callFunc_extern Tryd.prog 49 _ (ReflectliteType.method ReflectliteType.elem) Tryd.func49 (by kernel_rfl) (by kernel_rfl) (by kernel_rfl) (by kernel_rfl)
  have h38 := @run_callFunc_extern Tryd.prog 50 _ (ReflectliteType.relation "Implements" ReflectliteType.implements_) Tryd.func50 (by kernel_rfl) (by kernel_rfl) (by kernel_rfl) (by kernel_rfl)
  have h10 := @run_callFunc_extern Tryd.prog 13 _ ReflectliteType.typeOf Tryd.func13 (by kernel_rfl) (by kernel_rfl) (by kernel_rfl) (by kernel_rfl)
  have h35 := @run_callFunc_extern Tryd.prog 47 _ (ReflectliteType.relation "AssignableTo" ReflectliteType.assignableTo) Tryd.func47 (by kernel_rfl) (by kernel_rfl) (by kernel_rfl) (by kernel_rfl)
  have tO := typeOfS
  have mA := methodAssignableTo
  have a25 := assignableW
  have f6 := valueOfW
  have f7 := typeW
  have mK := methodKind
  have mE := methodElem
  have mI := methodImplements
  have k27 := kindW
  have k25 := kindEW
  have e27 := elemW
  have i25 := implementsW
  have nA := noAsS
  have nU := noUnwrapS
  have nV := noUnwrapsS
  have n8 := isNilW ⟨w.heap.size, 0, none⟩ t ((w.alloc (.cells #[.pointer (some t)] 38)).alloc (.cells #[.pointer (some ⟨1, 38, none⟩), .pointer (some ⟨w.heap.size, 0, none⟩), .int .u64 150] 54)) (by simp)
  have hlt : 0 < w.heap.size := by
    rcases Nat.eq_zero_or_pos w.heap.size with h0 | h
    · simp [World.cell?, h0] at hg
    · exact h
  have hg2 : ((w.alloc (.cells #[.pointer (some t)] 38)).alloc (.cells #[.pointer (some ⟨1, 38, none⟩), .pointer (some ⟨w.heap.size, 0, none⟩), .int .u64 150] 54)).cell? ⟨0, 0, none⟩ = some (.iface 62 (.agg #[.pointer (some ⟨1, 27, none⟩)])) := by
    rw [World.cell?_alloc_lt _ _ ⟨0, 0, none⟩ (by simp), World.cell?_alloc_lt _ _ ⟨0, 0, none⟩ hlt]; exact hg
  go_enter Tryd.func12, Tryd.ntmps12
  go_wp2
  refine wp_loop_rounds 1 ?_
  rw [rounds_succ]
  go_wp2
  go_ret
  refine ⟨rfl, ?_⟩
  exact below_al (below_al (below_al (Below.refl _ _) _) _) _

/-! ### target 41 -/
theorem valueOfE (t : Addr) (w : World) : (ReflectliteValue.unpack (.iface 41 (.pointer (some t)))).run Tryd.prog w
    = .ok (.agg #[.pointer (some ⟨1, 41, none⟩), .pointer (some ⟨w.heap.size, 0, none⟩), .int .u64 150]) (w.alloc (.cells #[.pointer (some t)] 41)) := by kernel_rfl
theorem typeE (a : Addr) (w : World) : (ReflectliteValue.methodAny (ReflectliteValue.valueError "reflectlite.Value.Type" 0) (fun t _ _ _ => ReflectliteType.toType t) #[.agg #[.pointer (some ⟨1, 41, none⟩), .pointer (some a), .int .u64 150]]).run Tryd.prog w
    = .ok (.iface 62 (.agg #[.pointer (some ⟨1, 41, none⟩)])) w := by kernel_rfl
theorem kindE (w : World) : ((ReflectliteType.abiMethod fun t => Functor.map (fun a : Nat => Value.int IntKind.u8 (a : Int)) (Rtype.kind t)) #[.pointer (some ⟨1, 41, none⟩)]).run Tryd.prog w = .ok (.int .u8 22) w := by kernel_rfl
theorem kindEE (w : World) : ((ReflectliteType.abiMethod fun t => Functor.map (fun a : Nat => Value.int IntKind.u8 (a : Int)) (Rtype.kind t)) #[.pointer (some ⟨1, 22, none⟩)]).run Tryd.prog w = .ok (.int .u8 2) w := by kernel_rfl
theorem partsE (a : Addr) (w : World) : (ReflectliteValue.parts (.agg #[.pointer (some ⟨1, 41, none⟩), .pointer (some a), .int .u64 150])).run Tryd.prog w = .ok (some (41, a, 150)) w := by kernel_rfl
theorem isNilE (a p : Addr) (W : World) (ha : W.cell? a = some (.pointer (some p))) :
    (ReflectliteValue.method (ReflectliteValue.valueError "reflectlite.Value.IsNil" 0) ReflectliteValue.isNil #[.agg #[.pointer (some ⟨1, 41, none⟩), .pointer (some a), .int .u64 150]]).run Tryd.prog W = .ok (.bool false) W := by
  rw [rlm]
  simp only [Sem.run_bind, partsE, Result.andThen]
  simp [ReflectliteValue.isNil, loadVar, isAgg, underlying, Tryd.underlying41, ha, Result.andThen]
theorem elemE (w : World) : (ReflectliteType.method ReflectliteType.elem #[.agg #[.pointer (some ⟨1, 41, none⟩)]]).run Tryd.prog w = .ok (.iface 62 (.agg #[.pointer (some ⟨1, 22, none⟩)])) w := by kernel_rfl
theorem implementsE (w : World) : (ReflectliteType.relation "Implements" ReflectliteType.implements_ #[.agg #[.pointer (some ⟨1, 22, none⟩)], .iface 62 (.agg #[.pointer (some ⟨1, 27, none⟩)])]).run Tryd.prog w = .ok (.bool true) w := by kernel_rfl
theorem assignableE (w : World) : (ReflectliteType.relation "AssignableTo" ReflectliteType.assignableTo #[.agg #[.pointer (some ⟨1, 42, none⟩)], .iface 62 (.agg #[.pointer (some ⟨1, 22, none⟩)])]).run Tryd.prog w = .ok (.bool false) w := by kernel_rfl
set_option maxHeartbeats 4000000 in
theorem as_missE (e t : Addr) (w : World) (hg : w.cell? ⟨0, 0, none⟩ = some (.iface 62 (.agg #[.pointer (some ⟨1, 27, none⟩)]))) :
    Calls Tryd.prog 12 #[.iface 42 (.pointer (some e)), .iface 41 (.pointer (some t))] w fun ev w' => ev = .returned (.bool false) ∧ Below w.heap.size w w' := by
  have h6 := @run_callFunc_extern Tryd.prog 15 _ (fun args => ReflectliteValue.unpack (args.getD 0 (.tuple #[]))) Tryd.func15 (by kernel_rfl) (by kernel_rfl) (by kernel_rfl) (by kernel_rfl)
  have h7 := @run_callFunc_extern Tryd.prog 16 _ (ReflectliteValue.methodAny (ReflectliteValue.valueError "reflectlite.Value.Type" 0) (fun t _ _ _ => ReflectliteType.toType t)) Tryd.func16 (by kernel_rfl) (by kernel_rfl) (by kernel_rfl) (by kernel_rfl)
  have h8 := @run_callFunc_extern Tryd.prog 17 _ (ReflectliteValue.method (ReflectliteValue.valueError "reflectlite.Value.IsNil" 0) ReflectliteValue.isNil) Tryd.func17 (by kernel_rfl) (by kernel_rfl) (by kernel_rfl) (by kernel_rfl)
  have h27 := @run_callFunc_extern Tryd.prog 35 _ (ReflectliteType.abiMethod fun t => do pure (.int .u8 (← Rtype.kind t))) Tryd.func35 (by kernel_rfl) (by kernel_rfl) (by kernel_rfl) (by kernel_rfl)
  have h37 := @run_callFunc_extern Tryd.prog 49 _ (ReflectliteType.method ReflectliteType.elem) Tryd.func49 (by kernel_rfl) (by kernel_rfl) (by kernel_rfl) (by kernel_rfl)
  have h38 := @run_callFunc_extern Tryd.prog 50 _ (ReflectliteType.relation "Implements" ReflectliteType.implements_) Tryd.func50 (by kernel_rfl) (by kernel_rfl) (by kernel_rfl) (by kernel_rfl)
  have h10 := @run_callFunc_extern Tryd.prog 13 _ ReflectliteType.typeOf Tryd.func13 (by kernel_rfl) (by kernel_rfl) (by kernel_rfl) (by kernel_rfl)
  have h35 := @run_callFunc_extern Tryd.prog 47 _ (ReflectliteType.relation "AssignableTo" ReflectliteType.assignableTo) Tryd.func47 (by kernel_rfl) (by kernel_rfl) (by kernel_rfl) (by kernel_rfl)
  have tO := typeOfS
  have mA := methodAssignableTo
  have a25 := assignableE
  have f6 := valueOfE
  have f7 := typeE
  have mK := methodKind
  have mE := methodElem
  have mI := methodImplements
  have k27 := kindE
  have k25 := kindEE
  have e27 := elemE
  have i25 := implementsE
  have nA := noAsS
  have nU := noUnwrapS
  have nV := noUnwrapsS
  have n8 := isNilE ⟨w.heap.size, 0, none⟩ t ((w.alloc (.cells #[.pointer (some t)] 41)).alloc (.cells #[.pointer (some ⟨1, 41, none⟩), .pointer (some ⟨w.heap.size, 0, none⟩), .int .u64 150] 54)) (by simp)
  have hlt : 0 < w.heap.size := by
    rcases Nat.eq_zero_or_pos w.heap.size with h0 | h
    · simp [World.cell?, h0] at hg
    · exact h
  have hg2 : ((w.alloc (.cells #[.pointer (some t)] 41)).alloc (.cells #[.pointer (some ⟨1, 41, none⟩), .pointer (some ⟨w.heap.size, 0, none⟩), .int .u64 150] 54)).cell? ⟨0, 0, none⟩ = some (.iface 62 (.agg #[.pointer (some ⟨1, 27, none⟩)])) := by
    rw [World.cell?_alloc_lt _ _ ⟨0, 0, none⟩ (by simp), World.cell?_alloc_lt _ _ ⟨0, 0, none⟩ hlt]; exact hg
  go_enter Tryd.func12, Tryd.ntmps12
  go_wp2
  refine wp_loop_rounds 1 ?_
  rw [rounds_succ]
  go_wp2
  go_ret
  refine ⟨rfl, ?_⟩
  exact below_al (below_al (below_al (Below.refl _ _) _) _) _
end Go.Proofs.YtfadkkodamiohaaDoor
