/-
  s[k:] of a slice of the call's own, its value under a name; no condition beyond those that each theorem states.
-/
import Derived.Test.YtbgmdjceecbbhaaDoorBase
import Derived.Laws.Slices
namespace Go.Rb
open Go.RowKit
theorem own_tail {P : Program} {w : World} {e : TypeId} {sz n c : Nat} {A : Option Addr} {xs : List Value} (t : TypeId) (ht : P.underlying t = some (.slice (P.elem t))) (hs : ∀ W, (sizeOf (P.elem t)).run P W = .ok sz W)
    (h : Own w e sz (.slice A n c) n xs) (k : Nat) (hk : k ≤ n) :
    ∃ A' c', (∀ W, (Instr.slice t (.slice A n c) (some (.int .i64 (k : Int))) none none).run P W = .ok (.slice A' (n - k) c') W) ∧ Own w e sz (.slice A' (n - k) c') (n - k) (xs.drop (k * sz)) ∧
      (∀ b, (Value.slice A' (n - k) c').ownBlock = some b → (Value.slice A n c).ownBlock = some b) ∧ n - k ≤ c' := by
  have hrun : ∀ W, (Instr.slice t (.slice A n c) (some (.int .i64 (k : Int))) none none).run P W = .ok (sliced A k n c sz) W := fun W => by
    rw [run_slice_l (P := P) W t A n c ht .i64 (k : Int) (by omega) (by omega), hs W]
    simp [Result.andThen]
  rcases h.2 with ⟨h0, hn⟩ | ⟨g, off, cap, cur, hv, hg, hnc, hcm, hsz, hx⟩
  · simp at h0
    obtain ⟨rfl, -, rfl⟩ := h0
    subst hn
    obtain rfl : k = 0 := by omega
    have hxs : xs = [] := List.eq_nil_of_length_eq_zero (by simpa using h.1)
    subst hxs
    refine ⟨none, 0, fun W => (hrun W).trans ?_, ?_, fun b hb => by simpa using hb, by simp⟩
    · simp [sliced]
    · simpa using Own.nil_ w e sz
  · simp only [Value.slice.injEq, true_and] at hv
    obtain ⟨rfl, rfl⟩ := hv
    have htl := Own.tail_ h k hk
    refine ⟨some (if c = k then ⟨g, off, none⟩ else ⟨g, off + k * sz, none⟩), c - k, fun W => (hrun W).trans ?_, htl, fun b hb => ?_, by omega⟩
    · simp only [sliced, Option.map_some, Addr.add_lit]
      split <;> rfl
    · simp only [Value.ownBlock] at hb ⊢
      split at hb <;> simpa using hb
end Go.Rb
namespace Go.Rb
open Go.RowKit
theorem own_ne_blk' {w : World} {e t : TypeId} {sz n g : Nat} {v : Value} {xs : List Value} {cs : Array Value} (h : Own w e sz v n xs) (hb : Blk w g t cs) (hne : e ≠ t) : v.ownBlock ≠ some g := by
  intro hk
  rcases h.2 with ⟨rfl, _⟩ | ⟨g', off, cap, cur, rfl, hg, _⟩
  · simp [Value.ownBlock] at hk
  · have e1 : g' = g := by simpa [Value.ownBlock] using hk
    subst e1
    exact Blk.ne_ (t := _) (t' := _) hg hb hne rfl
end Go.Rb
