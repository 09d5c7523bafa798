/-
  How a slice of trees grows by one; what Tree answers; no condition beyond those that each theorem states.
-/
import Derived.Test.YtgfienopijlnkaaPar11
namespace Go.Proofs.Ytgfienopijlnkaa
open Go.RowKit Go.Rb
attribute [local irreducible] Go.wpQuiet

theorem nds_push {w : World} {T : Nat → Prop} {v x : Value} {ns : List Nd} {vs : List Value} {n : Nd} (hl : vs.length = ns.length) (hO : Own w 28 5 v (ns.length + 1) (vs.flatMap cellsV ++ cellsV x))
    (ho : ∀ (i : Nat) (m : Nd), ns[i]? = some m → NdV w T (vs.getD i undef) m) (hx : NdV w T x n) : NdsO w T v (ns ++ [n]) := by
  refine ⟨vs ++ [x], by simp [hl], ?_, fun i m hi => ?_⟩
  · have e : (vs ++ [x]).flatMap cellsV = vs.flatMap cellsV ++ cellsV x := by simp
    rw [e, List.length_append]
    exact hO
  · by_cases hin : i < ns.length
    · rw [List.getElem?_append_left hin] at hi
      have e : (vs ++ [x]).getD i undef = vs.getD i undef := by
        rw [List.getD, List.getD, List.getElem?_append_left (by omega)]
      rw [e]
      exact ho i m hi
    · have hi2 := (List.getElem?_eq_some_iff.1 hi).1
      obtain rfl : i = ns.length := by simp at hi2; omega
      rw [List.getElem?_append_right (Nat.le_refl _)] at hi
      obtain rfl : n = m := by simpa using hi
      have e : (vs ++ [x]).getD ns.length undef = x := by
        rw [List.getD, List.getElem?_append_right (by omega), hl]
        simp
      rw [e]
      exact hx
/-- What Tree answers. -/
def RetTree (w : World) (r : Option Nd) (e : Ending) (w' : World) : Prop := Below w.heap.size w w' ∧ match r with
  | some n => ∃ v, e = .returned (.tuple #[v, .bool true]) ∧ NdV w' (fun k => w.heap.size ≤ k) v n
  | none => e = .returned (.tuple #[zeroNd, .bool false])
/-- At a depth of more than ten parentheses there is none. -/
theorem tree_deep (A : Option Addr) (n c : Nat) (d : Int) (w : World) (hd : 10 < d) : Calls Try.prog 13 #[.slice A n c, .int .i64 d] w (RetTree w none) := by
  go_enter Try.func13, Try.ntmps13
  go_wp2_with fail
  go_returns
  exact ⟨below_al (Below.refl _ _) _, rfl⟩
end Go.Proofs.Ytgfienopijlnkaa
