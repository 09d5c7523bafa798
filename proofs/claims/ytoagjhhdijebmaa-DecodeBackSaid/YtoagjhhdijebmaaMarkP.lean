/-
  Plain facts: when the mark is sure; no condition beyond those that each theorem states.
-/
import Derived.Test.YtoagjhhdijebmaaMark2
namespace Go.Proofs.Ytoagjhhdijebmaa
open Go.RowKit Go.Rb

theorem open_eq : ∀ b : List UInt8, openB b = (decide (b = []) || decide (b = [239]) || decide (b = [239, 187]) || decide (b = [255]) || decide (b = [254]))
  | [] => by decide
  | [x] => by
    rw [Bool.eq_iff_iff]
    simp [openB, part1, prefB, mk1, mk2, mk3]
    constructor <;> (intro h; rcases h with (h | h) | h <;> simp [h])
  | [x, y] => by
    rw [Bool.eq_iff_iff]
    simp [openB, part1, prefB, mk1, mk2, mk3]
    constructor <;> (rintro ⟨h1, h2⟩; exact ⟨h1.symm, h2.symm⟩)
  | x :: y :: z :: r => by
    rw [Bool.eq_iff_iff]
    simp [openB, part1, prefB, mk1, mk2, mk3]
theorem mark_open {b : List UInt8} (h : openB b = true) : markP b = (0, 0) := by
  rw [open_eq] at h
  simp at h
  rcases h with (((h | h) | h) | h) | h <;> (subst h; decide)
theorem sure_open (b : List UInt8) : sureB b = !openB b := by
  unfold sureB
  cases h : openB b with
  | true => rw [mark_open h]; decide
  | false => simp
theorem sure_eq (b : List UInt8) : sureB b = !(decide (b = []) || decide (b = [239]) || decide (b = [239, 187]) || decide (b = [255]) || decide (b = [254])) := by
  rw [sure_open, open_eq]
theorem pref_more {m b : List UInt8} (r : List UInt8) (h : part1 m b = false) : prefB (b ++ r) m = prefB b m := by
  rw [Bool.eq_iff_iff, prefB_iff, prefB_iff]
  constructor
  · intro hm
    rcases List.prefix_or_prefix_of_prefix hm (List.prefix_append b r) with h1 | h1
    · exact h1
    · have hl : ¬ b.length < m.length := fun hl => by
        unfold part1 at h
        rw [(prefB_iff m b).2 h1, decide_eq_true hl] at h
        cases h
      have e : b = m := h1.eq_of_length_le (by omega)
      rw [e]
      exact List.prefix_refl m
  · exact fun hm => hm.trans (List.prefix_append b r)
theorem mark_more {b : List UInt8} (r : List UInt8) (h : sureB b = true) : markP (b ++ r) = markP b := by
  rw [sure_open] at h
  have ho : openB b = false := by simpa using h
  unfold openB at ho
  simp only [Bool.or_eq_false_iff] at ho
  obtain ⟨⟨h1, h2⟩, h3⟩ := ho
  unfold markP
  rw [pref_more r h1, pref_more r h2, pref_more r h3]
end Go.Proofs.Ytoagjhhdijebmaa
