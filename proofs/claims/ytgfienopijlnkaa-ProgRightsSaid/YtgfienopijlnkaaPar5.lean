/-
  The contract of reedbedref09.token where no class or escape stands; no condition beyond those that each theorem states.
-/
import Derived.Test.YtgfienopijlnkaaPar4
namespace Go.Proofs.Ytgfienopijlnkaa
open Go.RowKit Go.Rb
attribute [local irreducible] Go.wpQuiet

/-- A token: what it is, its sign, its set, a count's bounds. -/
structure Tk where
  kind : Int
  r : Int
  set : List (Int × Int)
  mn : Int
  mx : Int
def flat (s : List (Int × Int)) : List Value := s.flatMap fun p => [.int .i64 p.1, .int .i64 p.2]
theorem flat_len (s : List (Int × Int)) : (flat s).length = s.length * 2 := by
  induction s with
  | nil => rfl
  | cons a s ih => rw [flat, List.flatMap_cons, List.length_append, ← flat, ih]; simp; omega
/-- A slice of its own that holds these ranges. -/
def SetV (w : World) (v : Value) (s : List (Int × Int)) : Prop := Own w 56 2 v s.length (flat s)
theorem SetV.nil_ (w : World) : SetV w (.slice none 0 0) [] := Own.nil_ _ _ _
theorem SetV.below {w w' : World} {v : Value} {s : List (Int × Int)} (h : SetV w v s) (hb : Below w.heap.size w w') : SetV w' v s := Own.below h hb (fun _ hk => Own.lt h hk)
theorem SetV.only {S : Nat → Prop} {w w' : World} {v : Value} {s : List (Int × Int)} (h : SetV w v s) (hb : Only S w w') (hs : ∀ k, v.ownBlock = some k → ¬ S k) : SetV w' v s := Own.only h hb hs
/-- How a token lies in its five cells. -/
def TkV (w : World) (v : Value) (t : Tk) : Prop := ∃ sv, v = .agg #[.int .i64 t.kind, .int .i64 t.r, sv, .int .i64 t.mn, .int .i64 t.mx] ∧ SetV w sv t.set
def sgnTok (r : Int) : Value := .agg #[.int .i64 1, .int .i64 r, .slice none 0 0, .int .i64 0, .int .i64 0]
set_option maxHeartbeats 400000 in
theorem token_s124 (b off n c : Nat) (w : World) (hn : 1 ≤ n) (hc : n ≤ c) (hb : b < w.heap.size) (c0 : w.cell? ⟨b, off, none⟩ = some (.int .i64 124)) : Calls Try.prog 12 #[.slice (some ⟨b, off, none⟩) n c] w fun e w' => e = .returned (.tuple #[sgnTok 124, .int .i64 1]) ∧ Below w.heap.size w w' := by
  go_enter Try.func12, Try.ntmps12
  go_wp2_with fail
  go_returns
  exact ⟨rfl, below_al (Below.refl _ _) _⟩
set_option maxHeartbeats 400000 in
theorem token_s40 (b off n c : Nat) (w : World) (hn : 1 ≤ n) (hc : n ≤ c) (hb : b < w.heap.size) (c0 : w.cell? ⟨b, off, none⟩ = some (.int .i64 40)) : Calls Try.prog 12 #[.slice (some ⟨b, off, none⟩) n c] w fun e w' => e = .returned (.tuple #[sgnTok 40, .int .i64 1]) ∧ Below w.heap.size w w' := by
  go_enter Try.func12, Try.ntmps12
  go_wp2_with fail
  go_returns
  exact ⟨rfl, below_al (Below.refl _ _) _⟩
set_option maxHeartbeats 400000 in
theorem token_s41 (b off n c : Nat) (w : World) (hn : 1 ≤ n) (hc : n ≤ c) (hb : b < w.heap.size) (c0 : w.cell? ⟨b, off, none⟩ = some (.int .i64 41)) : Calls Try.prog 12 #[.slice (some ⟨b, off, none⟩) n c] w fun e w' => e = .returned (.tuple #[sgnTok 41, .int .i64 1]) ∧ Below w.heap.size w w' := by
  go_enter Try.func12, Try.ntmps12
  go_wp2_with fail
  go_returns
  exact ⟨rfl, below_al (Below.refl _ _) _⟩
set_option maxHeartbeats 400000 in
theorem token_s94 (b off n c : Nat) (w : World) (hn : 1 ≤ n) (hc : n ≤ c) (hb : b < w.heap.size) (c0 : w.cell? ⟨b, off, none⟩ = some (.int .i64 94)) : Calls Try.prog 12 #[.slice (some ⟨b, off, none⟩) n c] w fun e w' => e = .returned (.tuple #[sgnTok 94, .int .i64 1]) ∧ Below w.heap.size w w' := by
  go_enter Try.func12, Try.ntmps12
  go_wp2_with fail
  go_returns
  exact ⟨rfl, below_al (Below.refl _ _) _⟩
set_option maxHeartbeats 400000 in
theorem token_s36 (b off n c : Nat) (w : World) (hn : 1 ≤ n) (hc : n ≤ c) (hb : b < w.heap.size) (c0 : w.cell? ⟨b, off, none⟩ = some (.int .i64 36)) : Calls Try.prog 12 #[.slice (some ⟨b, off, none⟩) n c] w fun e w' => e = .returned (.tuple #[sgnTok 36, .int .i64 1]) ∧ Below w.heap.size w w' := by
  go_enter Try.func12, Try.ntmps12
  go_wp2_with fail
  go_returns
  exact ⟨rfl, below_al (Below.refl _ _) _⟩
set_option maxHeartbeats 400000 in
theorem token_c42 (b off n c : Nat) (w : World) (hn : 1 ≤ n) (hc : n ≤ c) (hb : b < w.heap.size) (c0 : w.cell? ⟨b, off, none⟩ = some (.int .i64 42)) : Calls Try.prog 12 #[.slice (some ⟨b, off, none⟩) n c] w fun e w' => e = .returned (.tuple #[cntTok 0 (-1), .int .i64 1]) ∧ Below w.heap.size w w' := by
  go_enter Try.func12, Try.ntmps12
  go_wp2_with fail
  go_returns
  exact ⟨rfl, below_al (Below.refl _ _) _⟩
set_option maxHeartbeats 400000 in
theorem token_c43 (b off n c : Nat) (w : World) (hn : 1 ≤ n) (hc : n ≤ c) (hb : b < w.heap.size) (c0 : w.cell? ⟨b, off, none⟩ = some (.int .i64 43)) : Calls Try.prog 12 #[.slice (some ⟨b, off, none⟩) n c] w fun e w' => e = .returned (.tuple #[cntTok 1 (-1), .int .i64 1]) ∧ Below w.heap.size w w' := by
  go_enter Try.func12, Try.ntmps12
  go_wp2_with fail
  go_returns
  exact ⟨rfl, below_al (Below.refl _ _) _⟩
set_option maxHeartbeats 400000 in
theorem token_c63 (b off n c : Nat) (w : World) (hn : 1 ≤ n) (hc : n ≤ c) (hb : b < w.heap.size) (c0 : w.cell? ⟨b, off, none⟩ = some (.int .i64 63)) : Calls Try.prog 12 #[.slice (some ⟨b, off, none⟩) n c] w fun e w' => e = .returned (.tuple #[cntTok 0 1, .int .i64 1]) ∧ Below w.heap.size w w' := by
  go_enter Try.func12, Try.ntmps12
  go_wp2_with fail
  go_returns
  exact ⟨rfl, below_al (Below.refl _ _) _⟩
set_option maxHeartbeats 400000 in
theorem token_n93 (b off n c : Nat) (w : World) (hn : 1 ≤ n) (hc : n ≤ c) (hb : b < w.heap.size) (c0 : w.cell? ⟨b, off, none⟩ = some (.int .i64 93)) : Calls Try.prog 12 #[.slice (some ⟨b, off, none⟩) n c] w fun e w' => e = .returned (.tuple #[zeroTok, .int .i64 0]) ∧ Below w.heap.size w w' := by
  go_enter Try.func12, Try.ntmps12
  go_wp2_with fail
  go_returns
  exact ⟨rfl, below_al (Below.refl _ _) _⟩
set_option maxHeartbeats 400000 in
theorem token_n125 (b off n c : Nat) (w : World) (hn : 1 ≤ n) (hc : n ≤ c) (hb : b < w.heap.size) (c0 : w.cell? ⟨b, off, none⟩ = some (.int .i64 125)) : Calls Try.prog 12 #[.slice (some ⟨b, off, none⟩) n c] w fun e w' => e = .returned (.tuple #[zeroTok, .int .i64 0]) ∧ Below w.heap.size w w' := by
  go_enter Try.func12, Try.ntmps12
  go_wp2_with fail
  go_returns
  exact ⟨rfl, below_al (Below.refl _ _) _⟩
end Go.Proofs.Ytgfienopijlnkaa
