/-
  A part of a slice of tokens; no condition beyond those that each theorem states.
-/
import Derived.Test.YtgfienopijlnkaaPar12
namespace Go.Proofs.Ytgfienopijlnkaa
open Go.RowKit Go.Rb

theorem tks_part {w : World} {A : Option Addr} {l : List Tk} {n c : Nat} (h : TksR w A l) (hl : l.length = n) (hc : n ≤ c) (lo hi : Nat) (h1 : lo ≤ hi) (h2 : hi ≤ n) :
    ∃ A' c', (∀ W, (Instr.slice 41 (.slice A n c) (some (.int .i64 (lo : Int))) (some (.int .i64 (hi : Int))) none).run Try.prog W = .ok (.slice A' (hi - lo) c') W) ∧ TksR w A' ((l.take hi).drop lo) ∧ hi - lo ≤ c' := by
  have hs : ∀ W, (sizeOf (Try.prog.elem 41)).run Try.prog W = .ok 5 W := fun W => by kernel_rfl
  have hrun : ∀ W, (Instr.slice 41 (.slice A n c) (some (.int .i64 (lo : Int))) (some (.int .i64 (hi : Int))) none).run Try.prog W = .ok (sliced A lo hi c 5) W := fun W => by
    rw [run_slice_lh (P := Try.prog) W 41 A n c Try.underlying41 .i64 .i64 (lo : Int) (hi : Int) (by omega) (by omega) (by omega), hs W]
    simp [Result.andThen]
  refine ⟨_, c - lo, fun W => (hrun W).trans rfl, fun hne => ?_, by omega⟩
  have hlt : lo < hi := by
    rcases Nat.lt_or_ge lo hi with h | h
    · exact h
    · exact absurd (List.drop_eq_nil_of_le (by rw [List.length_take]; omega)) hne
  obtain ⟨b, off, rfl, hb, ht⟩ := h (fun e => by rw [e] at hl; simp at hl; omega)
  refine ⟨b, off + lo * 5, ?_, hb, fun i t hi' => ?_⟩
  · rw [if_neg (by omega)]
    simp [Rb.add_plain]
  · rw [List.getElem?_drop] at hi'
    have hk : lo + i < hi := by
      have := (List.getElem?_eq_some_iff.1 hi').1
      rw [List.length_take] at this
      omega
    rw [List.getElem?_take_of_lt hk] at hi'
    obtain ⟨sv, k0, k1, k2, k3, k4, k5⟩ := ht (lo + i) t hi'
    have e : off + (lo + i) * 5 = off + lo * 5 + i * 5 := by omega
    rw [e] at k0 k1 k2 k3 k4
    exact ⟨sv, k0, k1, k2, k3, k4, k5⟩
end Go.Proofs.Ytgfienopijlnkaa
