/-
  Plain facts: what all of a text's records are; no condition beyond those that each theorem states.
-/
import Derived.Test.YthgjfdjjnkgicaaSplit3
import Derived.Test.YthgjfdjjnkgicaaPlain7c
namespace Go.Proofs.Ythgjfdjjnkgicaa
open Go.RowKit Go.Rb

def s0 (most : Nat) : SS := ⟨most, [], 0, 0, false⟩
theorem tooLong_lt (most : Nat) (l : List UInt8) (h : tooLong most l = true) : most < l.length := by
  unfold tooLong at h
  simp at h
  omega
theorem wrR_s0 (most : Nat) (x : List UInt8) : wrR (s0 most) x = recs most x [] 0 0 := rfl
theorem wrE_01 (s : SS) (x : List UInt8) : wrE s x = 0 ∨ wrE s x = 10 := by
  unfold wrE; split
  · exact Or.inl rfl
  · split
    · exact Or.inr rfl
    · split
      · exact Or.inr rfl
      · exact Or.inl rfl
theorem wrE_s0 (most : Nat) (x : List UInt8) : wrE (s0 most) x = if (recs most x [] 0 0).long then 10 else if tooLong most (recs most x [] 0 0).rest then 10 else 0 := rfl
theorem wrOut_s0 (most : Nat) (x : List UInt8) : wrOut (s0 most) x = (recs most x [] 0 0).out := rfl
theorem wrS_s0 (most : Nat) (x : List UInt8) : wrS (s0 most) x = if (recs most x [] 0 0).long then ⟨most, [], (recs most x [] 0 0).n, (recs most x [] 0 0).a, true⟩ else if tooLong most (recs most x [] 0 0).rest then ⟨most, [], (recs most x [] 0 0).n, (recs most x [] 0 0).a, true⟩ else ⟨most, (recs most x [] 0 0).rest, (recs most x [] 0 0).n, (recs most x [] 0 0).a, false⟩ := rfl
theorem al_bad (most : Nat) (x : List UInt8) (h : wrE (s0 most) x = 10) : al most x = (wrOut (s0 most) x, 10) := by
  rw [wrE_s0] at h
  rw [wrOut_s0, al]
  unfold fin
  generalize recs most x [] 0 0 = R at *
  by_cases h1 : R.long = true
  · rw [if_pos h1]
  · rw [if_neg h1] at h ⊢
    by_cases h2 : tooLong most R.rest = true
    · have := tooLong_lt most R.rest h2
      rw [if_neg (by intro e; rw [e] at this; simp at this), if_pos this]
    · rw [if_neg h2] at h; exact absurd h (by decide)
theorem al_ok (most : Nat) (x : List UInt8) (h : wrE (s0 most) x = 0) : al most x = (wrOut (s0 most) x ++ clOut (wrS (s0 most) x), clE (wrS (s0 most) x)) := by
  rw [wrE_s0] at h
  rw [wrOut_s0, wrS_s0, al]
  unfold fin
  generalize recs most x [] 0 0 = R at *
  by_cases h1 : R.long = true
  · rw [if_pos h1] at h; exact absurd h (by decide)
  · rw [if_neg h1] at h
    rw [if_neg h1, if_neg h1]
    by_cases h2 : tooLong most R.rest = true
    · rw [if_pos h2] at h; exact absurd h (by decide)
    · rw [if_neg h2]
      unfold clOut clE
      by_cases h3 : R.rest = []
      · simp [h3]
      · by_cases h4 : most < R.rest.length
        · simp [h3, h4]
        · simp [h3, h4]
theorem wrS_ok (most : Nat) (x : List UInt8) (h : wrE (s0 most) x = 0) : wrS (s0 most) x = ⟨most, (recs most x [] 0 0).rest, (recs most x [] 0 0).n, (recs most x [] 0 0).a, false⟩ := by
  rw [wrE_s0] at h
  rw [wrS_s0]
  by_cases h1 : (recs most x [] 0 0).long = true
  · rw [if_pos h1] at h; exact absurd h (by decide)
  · rw [if_neg h1] at h ⊢
    by_cases h2 : tooLong most (recs most x [] 0 0).rest = true
    · rw [if_pos h2] at h; exact absurd h (by decide)
    · rw [if_neg h2]
end Go.Proofs.Ythgjfdjjnkgicaa
