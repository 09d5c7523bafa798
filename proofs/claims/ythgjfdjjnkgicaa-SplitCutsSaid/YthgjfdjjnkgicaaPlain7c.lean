/-
  Plain facts: the document's reading of a text, step by step; no condition beyond those that each theorem states.
-/
import Derived.Test.YthgjfdjjnkgicaaPlain7
namespace Go.Proofs.Ythgjfdjjnkgicaa
open Go.RowKit Go.Rb

/-- A text's end. -/
def fin (most : Nat) (R : Res) : List Rc × Int := if R.long then (R.out, 10) else if R.rest = [] then (R.out, 0) else if most < R.rest.length then (R.out, 10) else (R.out ++ [⟨R.n, R.a, R.rest⟩], 0)
def al (most : Nat) (x : List UInt8) : List Rc × Int := fin most (recs most x [] 0 0)
/-- What is told of a text that has not ended. -/
def part (most : Nat) (R : Res) : List Rc × Int × Nat := if R.long then (R.out, 10, 0) else if tooLong most R.rest then (R.out, 10, 0) else (R.out, 0, R.rest.length)
def rf (en : Bool) (most : Nat) (x : List UInt8) : List Rc × Int × Nat := if en then ((al most x).1, (al most x).2, 0) else part most (recs most x [] 0 0)
def cut (x : List UInt8) (a i : Nat) : List UInt8 := (x.drop a).take (i - a)
theorem cut_len (x : List UInt8) (a i : Nat) (h : i ≤ x.length) : (cut x a i).length = i - a := by simp [cut]; omega
theorem drop_cons (x : List UInt8) (i : Nat) (h : i < x.length) : x.drop i = x.getD i 0 :: x.drop (i + 1) := by
  rw [List.drop_eq_getElem_cons h, List.getD_eq_getElem?_getD, List.getElem?_eq_getElem h]; rfl
theorem cut_snoc (x : List UInt8) (a i : Nat) (h1 : a ≤ i) (h2 : i < x.length) : cut x a i ++ [x.getD i 0] = cut x a (i + 1) := by
  unfold cut
  have e : i + 1 - a = (i - a) + 1 := by omega
  have hi : i - a < (x.drop a).length := by simp; omega
  rw [e, List.take_add_one, List.getElem?_eq_getElem hi, List.getElem_drop, List.getD_eq_getElem?_getD, List.getElem?_eq_getElem h2]
  have e2 : a + (i - a) = i := by omega
  simp [e2]
theorem cut_self (x : List UInt8) (a : Nat) : cut x a a = [] := by simp [cut]
theorem cut_end (x : List UInt8) (a : Nat) : cut x a x.length = x.drop a := by simp [cut, List.take_of_length_le]
theorem step_no (most : Nat) (x : List UInt8) (a i n : Nat) (h1 : a ≤ i) (h2 : i < x.length) (hc : x.getD i 0 ≠ 10) :
    recs most (x.drop i) (cut x a i) a n = recs most (x.drop (i + 1)) (cut x a (i + 1)) a n := by
  rw [drop_cons x i h2, recs, if_neg hc, cut_snoc x a i h1 h2]
theorem step_yes (most : Nat) (x : List UInt8) (a i n : Nat) (h1 : a ≤ i) (h2 : i < x.length) (hc : x.getD i 0 = 10) :
    recs most (x.drop i) (cut x a i) a n = if most < (trimR (cut x a i)).length then ⟨[], [], a, n, true⟩ else pre [⟨n, a, trimR (cut x a i)⟩] (recs most (x.drop (i + 1)) (cut x (i + 1) (i + 1)) (i + 1) (n + 1)) := by
  rw [drop_cons x i h2, recs, if_pos hc, cut_len x a i (by omega), cut_self, show a + (i - a) + 1 = i + 1 from by omega]
theorem step_end (most : Nat) (x : List UInt8) (a n : Nat) : recs most (x.drop x.length) (cut x a x.length) a n = ⟨[], x.drop a, a, n, false⟩ := by
  rw [List.drop_length, recs, cut_end]
theorem trimR_nil : trimR [] = [] := by decide
theorem trimR_13 (y : List UInt8) : trimR (y ++ [13]) = y := by
  unfold trimR Lib.trimSuffix Lib.hasSuffix
  rw [if_pos (by rw [List.isSuffixOf_iff_suffix]; exact List.suffix_append y [13])]
  simp
theorem trimR_other (y : List UInt8) (c : UInt8) (h : c ≠ 13) : trimR (y ++ [c]) = y ++ [c] := by
  unfold trimR Lib.trimSuffix Lib.hasSuffix
  rw [if_neg]
  rw [List.isSuffixOf_iff_suffix]
  rintro ⟨t, ht⟩
  have := List.append_inj' ht rfl
  simp at this
  exact h this.2.symm
theorem trim_cut (x : List UInt8) (a i : Nat) (h1 : a ≤ i) (h2 : i ≤ x.length) : ∃ to, a ≤ to ∧ to ≤ i ∧ trimR (cut x a i) = cut x a to ∧ ((i = a ∧ to = i) ∨ (a < i ∧ x.getD (i - 1) 0 = 13 ∧ to = i - 1) ∨ (a < i ∧ x.getD (i - 1) 0 ≠ 13 ∧ to = i)) := by
  rcases Nat.lt_or_ge a i with h | h
  · have hs := cut_snoc x a (i - 1) (by omega) (by omega)
    rw [show i - 1 + 1 = i from by omega] at hs
    by_cases hc : x.getD (i - 1) 0 = 13
    · exact ⟨i - 1, by omega, by omega, by rw [← hs, hc, trimR_13], .inr (.inl ⟨h, hc, rfl⟩)⟩
    · exact ⟨i, by omega, by omega, by rw [← hs, trimR_other _ _ hc], .inr (.inr ⟨h, hc, rfl⟩)⟩
  · obtain rfl : i = a := by omega
    exact ⟨i, by omega, by omega, by rw [cut_self, trimR_nil], .inl ⟨rfl, rfl⟩⟩
theorem mk_cut (x : List UInt8) (a i : Nat) : (mk x).extract a i = mk (cut x a i) := mk_extract x a i
theorem al_len (most : Nat) (x : List UInt8) : (al most x).1.length ≤ x.length + 1 := by
  have h := (recs_bd most x [] 0 0).2.1
  unfold al fin
  split
  · simp only; omega
  · split
    · simp only; omega
    · split
      · simp only; omega
      · simp only [List.length_append, List.length_cons, List.length_nil]; omega
end Go.Proofs.Ythgjfdjjnkgicaa
