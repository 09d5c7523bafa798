/-
  The law CellOthers returns true: its walk; no condition beyond those that each theorem states.
-/
import Derived.Test.YtfadkkodamiohaaDoorErr2
namespace Go.Proofs.YtfadkkodamiohaaDoor
open Go.RowKit Go.Rb Go.Extern.Stop Go.Stop Go.Extern
attribute [local irreducible] Go.wpQuiet

/-- The laid variable errors.errorType. -/
def Gt (w : World) : Prop := w.cell? ⟨0, 0, none⟩ = some (.iface 62 (.agg #[.pointer (some ⟨1, 27, none⟩)]))
theorem Gt.lt {w : World} (h : Gt w) : 0 < w.heap.size := by
  rcases Nat.eq_zero_or_pos w.heap.size with h0 | h1
  · unfold Gt at h; simp [World.cell?, h0] at h
  · exact h1
theorem Gt.below {w w' : World} (h : Gt w) (hb : Below w.heap.size w w') : Gt w' := (hb.cell (p := ⟨0, 0, none⟩) h.lt).trans h
theorem Gt.alloc {w : World} (h : Gt w) (o : Obj) : Gt (w.alloc o) := h.below (below_al (Below.refl _ w) o)
set_option maxHeartbeats 1000000 in
theorem unwrap_nil (w : World) : Calls Tryd.prog 5 #[.nilIface] w fun e w' => e = .returned (.tuple #[.int .i64 0, .string ⟨#[]⟩, .bool false]) ∧ Below w.heap.size w w' := by
  go_enter Tryd.func5, Tryd.ntmps5
  go_wp2_with (go_at_call 12; refine (as_nil _ _).mono ?_; rintro e1 w1 ⟨rfl, rfl⟩)
  go_returns
  refine ⟨rfl, ?_⟩
  exact below_al (below_al (Below.refl _ _) _) _
set_option maxHeartbeats 1000000 in
theorem unwrap_new (e : Addr) (w : World) (hg : Gt w) : Calls Tryd.prog 5 #[.iface 42 (.pointer (some e))] w fun e w' => e = .returned (.tuple #[.int .i64 0, .string ⟨#[]⟩, .bool false]) ∧ Below w.heap.size w w' := by
  have HG := Lib.hid (fun o => hg.alloc o)
  have HB := Lib.hid (fun o => below_al (Below.refl _ w) o)
  have HA1 := Lib.hid (fun t W (h : Gt W) => as_missW e t W h)
  have HA2 := Lib.hid (fun t W (h : Gt W) => as_missE e t W h)
  clear hg
  go_enter Tryd.func5, Tryd.ntmps5
  go_wp2_with fail
  refine (HA1.out _ _ (HG.out _)).mono ?_
  rintro e1 w1 ⟨rfl, hb1⟩
  have HG1 := Lib.hid ((HG.out _).below hb1)
  have HB1 := Lib.hid (below_trans (HB.out _) hb1)
  clear hb1
  have HG2 := Lib.hid (fun o => HG1.out.alloc o)
  have HB2 := Lib.hid (fun o => below_al HB1.out o)
  go_wp2_with fail
  refine (HA2.out _ _ (HG2.out _)).mono ?_
  rintro e2 w2 ⟨rfl, hb2⟩
  have HB3 := Lib.hid (below_trans (HB2.out _) hb2)
  clear hb2
  go_wp2_with fail
  go_returns
  exact ⟨rfl, HB3.out⟩
set_option maxHeartbeats 1000000 in
theorem wrap_none (a : Int) (w : World) (ha : (a == 0) = false) : Calls Tryd.prog 8 #[.int .i64 a, .string ⟨#[]⟩] w fun e w' => e = .returned (eno a) ∧ w' = w := by
  go_enter Tryd.func8, Tryd.ntmps8
  go_wp2
  go_ret
  exact ⟨rfl, rfl⟩
set_option maxHeartbeats 1000000 in
theorem wrap_some (a : Int) (note : ByteArray) (w : World) (ha : (a == 0) = false) (hn : note.toList.isEmpty = false) : Calls Tryd.prog 8 #[.int .i64 a, .string note] w fun e w' => e = .returned (wrp w.heap.size) ∧ Blk w' w.heap.size 40 #[.int .i64 a, .string note] ∧ Below w.heap.size w w' := by
  go_enter Tryd.func8, Tryd.ntmps8
  go_wp2
  go_ret
  exact ⟨rfl, Blk.new _ _ _, below_al (Below.refl _ _) _⟩
theorem new_any (s : ByteArray) (w : World) : Calls Tryd.prog 6 #[.string s] w fun e w' => e = .returned (.iface 42 (.pointer (some ⟨w.heap.size, 0, none⟩))) ∧ Below w.heap.size w w' := by
  go_enter Tryd.func6, Tryd.ntmps6
  go_wp2
  go_ret
  exact ⟨rfl, below_al (Below.refl _ _) _⟩
end Go.Proofs.YtfadkkodamiohaaDoor
