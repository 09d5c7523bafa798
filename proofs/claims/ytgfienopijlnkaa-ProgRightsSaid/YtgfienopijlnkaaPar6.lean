/-
  The contract of reedbedref09.token at a dot, a count in braces and at letters; no condition beyond those that each theorem states.
-/
import Derived.Test.YtgfienopijlnkaaPar5
namespace Go.Proofs.Ytgfienopijlnkaa
open Go.RowKit Go.Rb
attribute [local irreducible] Go.wpQuiet

theorem setv_lit (W : World) (cs : Array Value) (s : List (Int × Int)) (k : Nat) (hk : k = W.heap.size) (hs : cs.toList = flat s) (hl : s.length ≤ maxLen) :
    SetV (W.alloc (.cells cs 56)) (.slice (some ⟨k, 0, none⟩) s.length s.length) s := by
  subst hk
  have h := Own.lit W 56 2 s.length cs (by rw [← Array.length_toList, hs, flat_len]) hl
  rw [hs] at h
  exact h
theorem SetV.drew {w : World} {v : Value} {s : List (Int × Int)} (h : SetV w v s) : SetV w.drew v s := h
set_option maxHeartbeats 400000 in
theorem token_dot (b off n c : Nat) (w : World) (hn : 1 ≤ n) (hc : n ≤ c) (hb : b < w.heap.size) (c0 : w.cell? ⟨b, off, none⟩ = some (.int .i64 46)) : Calls Try.prog 12 #[.slice (some ⟨b, off, none⟩) n c] w fun e w' => ∃ v, e = .returned (.tuple #[v, .int .i64 1]) ∧ Below w.heap.size w w' ∧ TkV w' v ⟨0, 0, [(0, 9), (11, 1114111)], 0, 0⟩ := by
  go_enter Try.func12, Try.ntmps12
  go_wp2_with fail
  go_returns
  exact ⟨_, rfl, below_al (below_al (Below.refl _ _) _) _, _, rfl, setv_lit (w.alloc _) _ [(0, 9), (11, 1114111)] _ (by simp) rfl (by decide)⟩
set_option maxHeartbeats 400000 in
theorem token_char (b off n c : Nat) (w : World) (hn : 1 ≤ n) (hc : n ≤ c) (hb : b < w.heap.size) (x : Int) (c0 : w.cell? ⟨b, off, none⟩ = some (.int .i64 x)) (n124 : (x == 124) = false) (n40 : (x == 40) = false) (n41 : (x == 41) = false) (n94 : (x == 94) = false) (n36 : (x == 36) = false) (n42 : (x == 42) = false) (n43 : (x == 43) = false) (n63 : (x == 63) = false) (n123 : (x == 123) = false) (n46 : (x == 46) = false) (n91 : (x == 91) = false) (n92 : (x == 92) = false) (n93 : (x == 93) = false) (n125 : (x == 125) = false) : Calls Try.prog 12 #[.slice (some ⟨b, off, none⟩) n c] w fun e w' => ∃ v, e = .returned (.tuple #[v, .int .i64 1]) ∧ Below w.heap.size w w' ∧ TkV w' v ⟨0, 0, [(x, x)], 0, 0⟩ := by
  go_enter Try.func12, Try.ntmps12
  go_wp2_with fail
  go_region
  go_wp2_with fail
  go_returns
  exact ⟨_, rfl, Below.drew (below_al (below_al (Below.refl _ _) _) _), _, rfl, (setv_lit (w.alloc _) _ [(x, x)] _ (by simp) rfl (by show 1 ≤ maxLen; decide)).drew⟩
set_option maxHeartbeats 400000 in
theorem token_brn (b off n c : Nat) (w : World) (hn : 1 ≤ n) (hc : n ≤ c) (hb : b < w.heap.size) (c0 : w.cell? ⟨b, off, none⟩ = some (.int .i64 123)) (A1 : Option Addr) (nn cc : Nat) (hsl : ∀ W, (Instr.slice 38 (.slice (some ⟨b, off, none⟩) n c) (some (.int .i64 1)) none none).run Try.prog W = .ok (.slice A1 nn cc) W) (HB : Hid (∀ W, Below w.heap.size w W → Calls Try.prog 17 #[.slice A1 nn cc] W fun e w' => w' = W.alloc (.cells #[.int .i64 0, .int .i64 0, .slice none 0 0, .int .i64 0, .int .i64 0] 43) ∧ e = .returned (.tuple #[.agg #[.int .i64 0, .int .i64 0, .slice none 0 0, .int .i64 0, .int .i64 0], .int .i64 0]))) : Calls Try.prog 12 #[.slice (some ⟨b, off, none⟩) n c] w fun e w' => e = .returned (.tuple #[zeroTok, .int .i64 0]) ∧ Below w.heap.size w w' := by
  go_enter Try.func12, Try.ntmps12
  go_wp2_with fail
  refine (HB.out _ (below_al (Below.refl _ _) _)).mono ?_
  rintro e1 w1 ⟨rfl, rfl⟩
  clear HB hsl c0
  go_wp2_with fail
  go_returns
  exact ⟨rfl, below_al (below_al (below_al (Below.refl _ _) _) _) _⟩
set_option maxHeartbeats 400000 in
theorem token_brk (b off n c : Nat) (w : World) (hn : 1 ≤ n) (hc : n ≤ c) (hb : b < w.heap.size) (p q : Int) (k : Nat) (hk0 : k ≠ 0) (hk : k ≤ 1000) (c0 : w.cell? ⟨b, off, none⟩ = some (.int .i64 123)) (A1 : Option Addr) (nn cc : Nat) (hsl : ∀ W, (Instr.slice 38 (.slice (some ⟨b, off, none⟩) n c) (some (.int .i64 1)) none none).run Try.prog W = .ok (.slice A1 nn cc) W) (HB : Hid (∀ W, Below w.heap.size w W → Calls Try.prog 17 #[.slice A1 nn cc] W fun e w' => w' = W.alloc (.cells #[.int .i64 2, .int .i64 0, .slice none 0 0, .int .i64 p, .int .i64 q] 43) ∧ e = .returned (.tuple #[.agg #[.int .i64 2, .int .i64 0, .slice none 0 0, .int .i64 p, .int .i64 q], .int .i64 (k : Int)]))) : Calls Try.prog 12 #[.slice (some ⟨b, off, none⟩) n c] w fun e w' => e = .returned (.tuple #[cntTok p q, .int .i64 ((k : Int) + 1)]) ∧ Below w.heap.size w w' := by
  have K0 : ((k : Int) == 0) = false := by simp; omega
  go_enter Try.func12, Try.ntmps12
  go_wp2_with fail
  refine (HB.out _ (below_al (Below.refl _ _) _)).mono ?_
  rintro e1 w1 ⟨rfl, rfl⟩
  clear HB hsl c0
  go_wp2_with fail
  go_returns
  exact ⟨rfl, below_al (below_al (below_al (Below.refl _ _) _) _) _⟩
end Go.Proofs.Ytgfienopijlnkaa
