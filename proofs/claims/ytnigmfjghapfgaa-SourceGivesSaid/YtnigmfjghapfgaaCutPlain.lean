/-
  What the pieces that Cut gives are, in plain Lean; no condition beyond those that each theorem states.
-/
import Derived.Test.YtnigmfjghapfgaaSrc3
namespace Go.Proofs.Ytnigmfjghapfgaa
open Go.RowKit Go.Rb

theorem cutF_flat (zs : List Int) : ∀ (f i : Nat) (bs : List UInt8), bs.length ≤ f → (cutF zs f i bs).flatten = bs
  | 0, i, bs, h => by
    have : bs = [] := List.eq_nil_of_length_eq_zero (by omega)
    subst this; rfl
  | f + 1, i, bs, h => by
    rw [cutF]
    split
    · rename_i h0; subst h0; rfl
    · rename_i h0
      have hl : 0 < bs.length := by cases bs <;> simp_all
      have hm := mOf_bd zs i bs.length hl
      rw [List.flatten_cons, cutF_flat zs f (i + 1) _ (by rw [List.length_drop]; omega), List.take_append_drop]
theorem cutP_flat (bs : List UInt8) (zs : List Int) : (cutP bs zs).flatten = bs := by
  unfold cutP
  split
  · rename_i h; subst h; rfl
  · split
    · simp
    · exact cutF_flat zs _ _ _ (Nat.le_refl _)
theorem cutF_ne (zs : List Int) : ∀ (f i : Nat) (bs : List UInt8), ∀ p ∈ cutF zs f i bs, p ≠ []
  | 0, i, bs, p, hp => by simp [cutF] at hp
  | f + 1, i, bs, p, hp => by
    rw [cutF] at hp
    split at hp
    · simp at hp
    · rename_i h0
      have hl : 0 < bs.length := by cases bs <;> simp_all
      have hm := mOf_bd zs i bs.length hl
      rcases List.mem_cons.1 hp with rfl | hp
      · intro e
        have h5 := congrArg List.length e
        rw [List.length_take, List.length_nil] at h5
        omega
      · exact cutF_ne zs f _ _ p hp
theorem cutP_ne (bs : List UInt8) (zs : List Int) : ∀ p ∈ cutP bs zs, p ≠ [] := by
  unfold cutP
  intro p hp
  split at hp
  · simp at hp
  · rename_i h
    split at hp
    · rcases List.mem_singleton.1 hp with rfl; exact h
    · exact cutF_ne zs _ _ _ p hp
theorem flat_len (ps : List (List UInt8)) (h : ∀ p ∈ ps, p ≠ []) : ps.length ≤ ps.flatten.length := by
  induction ps with
  | nil => simp
  | cons p ps ih =>
    have h1 := ih (fun q hq => h q (List.mem_cons_of_mem _ hq))
    have h2 : 0 < p.length := by cases p with
      | nil => exact absurd rfl (h [] (by simp))
      | cons => simp
    simp only [List.length_cons, List.flatten_cons, List.length_append]
    omega
theorem cutP_len (bs : List UInt8) (zs : List Int) : (cutP bs zs).length ≤ bs.length := by
  have := flat_len (cutP bs zs) (cutP_ne bs zs)
  rwa [cutP_flat] at this
theorem cutP_wf (bs : List UInt8) (zs : List Int) (fl : Int) : Wf ⟨cutP bs zs, 0, bs.length, fl⟩ := ⟨cutP_ne bs zs, by show _ = (cutP bs zs).flatten.length; rw [cutP_flat]⟩
end Go.Proofs.Ytnigmfjghapfgaa
