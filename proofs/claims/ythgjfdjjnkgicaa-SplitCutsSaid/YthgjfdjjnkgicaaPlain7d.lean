/-
  Plain facts: all of a text's records, one behind the other; no condition beyond those that each theorem states.
-/
import Derived.Test.YthgjfdjjnkgicaaPlain7b
namespace Go.Proofs.Ythgjfdjjnkgicaa
open Go.RowKit Go.Rb

/-- All records of what is left of a text. -/
def lv (most : Nat) (x : List UInt8) (a n : Nat) : List Rc × Int := fin most (recs most x [] a n)
theorem al_lv (most : Nat) (x : List UInt8) : al most x = lv most x 0 0 := rfl
theorem lv_nil (most a n : Nat) : lv most [] a n = ([], 0) := by unfold lv recs fin; simp
theorem lv_none (most : Nat) (x : List UInt8) (a n : Nat) (h : (10 : UInt8) ∉ x) (hx : x ≠ []) : lv most x a n = if most < x.length then ([], 10) else ([⟨n, a, x⟩], 0) := by
  unfold lv
  rw [recs_none most x [] a n h, List.nil_append]
  unfold fin
  simp only [Bool.false_eq_true, if_false, if_neg hx, List.nil_append]
theorem lv_cut (most : Nat) (x y : List UInt8) (a n : Nat) (h : (10 : UInt8) ∉ x) :
    lv most (x ++ 10 :: y) a n = if most < (trimR x).length then ([], 10) else (⟨n, a, trimR x⟩ :: (lv most y (a + x.length + 1) (n + 1)).1, (lv most y (a + x.length + 1) (n + 1)).2) := by
  unfold lv
  rw [recs_cut most x y [] a n h, List.nil_append]
  by_cases hl : most < (trimR x).length
  · rw [if_pos hl, if_pos hl]
    unfold fin; simp
  · rw [if_neg hl, if_neg hl]
    generalize recs most y [] (a + x.length + 1) (n + 1) = R
    unfold fin pre
    by_cases h1 : R.long = true
    · simp [h1]
    · simp only [h1, if_false]
      by_cases h2 : R.rest = []
      · simp [h2]
      · simp only [h2, if_false]
        by_cases h3 : most < R.rest.length
        · simp [h3]
        · simp [h3]
theorem split_or (x : List UInt8) : x = [] ∨ (x ≠ [] ∧ (10 : UInt8) ∉ x) ∨ ∃ y z, x = y ++ 10 :: z ∧ (10 : UInt8) ∉ y := by
  by_cases h : (10 : UInt8) ∈ x
  · obtain ⟨y, z, e, hn⟩ := split_mem x 10 h
    exact .inr (.inr ⟨y, z, e, hn⟩)
  · by_cases hx : x = []
    · exact .inl hx
    · exact .inr (.inl ⟨hx, h⟩)
theorem trimR_or (y : List UInt8) : trimR y = y ∧ (∀ t, y ≠ t ++ [13]) ∨ y = trimR y ++ [13] := by
  rcases List.eq_nil_or_concat y with rfl | ⟨t, c, rfl⟩
  · exact .inl ⟨trimR_nil, fun t h => by simp at h⟩
  · rw [List.concat_eq_append]
    by_cases hc : c = 13
    · subst hc
      exact .inr (by rw [trimR_13])
    · refine .inl ⟨trimR_other t c hc, fun u h => ?_⟩
      have := List.append_inj' h rfl
      simp at this
      exact hc this.2
/-- All is well in a short text. -/
theorem lv_ok (most : Nat) : ∀ (k : Nat) (x : List UInt8) (a n : Nat), x.length ≤ k → x.length ≤ most → (lv most x a n).2 = 0
  | 0, x, a, n, hk, _ => by
    obtain rfl : x = [] := List.eq_nil_of_length_eq_zero (by omega)
    rw [lv_nil]
  | k + 1, x, a, n, hk, hm => by
    rcases split_or x with rfl | ⟨hx, hn⟩ | ⟨y, z, rfl, hn⟩
    · rw [lv_nil]
    · rw [lv_none most x a n hn hx, if_neg (by omega)]
    · have hl := trimR_le y
      simp only [List.length_append, List.length_cons] at hk hm
      rw [lv_cut most y z a n hn, if_neg (by omega)]
      exact lv_ok most k z _ _ (by omega) (by omega)
/-- A smaller limit: the records ahead of the first that is longer. -/
theorem lv_less (m M : Nat) (hmM : m ≤ M) : ∀ (k : Nat) (x : List UInt8) (a n : Nat), x.length ≤ k → x.length ≤ M →
    lv m x a n = ((lv M x a n).1.takeWhile (fun r => !decide (m < r.t.length)), if (lv M x a n).1.all (fun r => !decide (m < r.t.length)) then 0 else 10)
  | 0, x, a, n, hk, _ => by
    obtain rfl : x = [] := List.eq_nil_of_length_eq_zero (by omega)
    rw [lv_nil, lv_nil]; rfl
  | k + 1, x, a, n, hk, hm => by
    rcases split_or x with rfl | ⟨hx, hn⟩ | ⟨y, z, rfl, hn⟩
    · rw [lv_nil, lv_nil]; rfl
    · rw [lv_none m x a n hn hx, lv_none M x a n hn hx, if_neg (show ¬ M < x.length by omega)]
      by_cases h : m < x.length
      · simp [h]
      · simp [h]
    · have hl := trimR_le y
      simp only [List.length_append, List.length_cons] at hk hm
      rw [lv_cut m y z a n hn, lv_cut M y z a n hn, if_neg (show ¬ M < (trimR y).length by omega)]
      have ih := lv_less m M hmM k z (a + y.length + 1) (n + 1) (by omega) (by omega)
      by_cases h : m < (trimR y).length
      · simp [h]
      · rw [if_neg h, ih]; simp [h]
theorem lv_len (most : Nat) : ∀ (k : Nat) (x : List UInt8) (a n : Nat), x.length ≤ k → (lv most x a n).1.length ≤ x.length
  | 0, x, a, n, hk => by
    obtain rfl : x = [] := List.eq_nil_of_length_eq_zero (by omega)
    rw [lv_nil]; simp
  | k + 1, x, a, n, hk => by
    rcases split_or x with rfl | ⟨hx, hn⟩ | ⟨y, z, rfl, hn⟩
    · rw [lv_nil]; simp
    · rw [lv_none most x a n hn hx]
      have : 0 < x.length := by rcases x with _ | _; exact absurd rfl hx; simp
      split <;> simp; omega
    · simp only [List.length_append, List.length_cons] at hk
      rw [lv_cut most y z a n hn]
      have := lv_len most k z (a + y.length + 1) (n + 1) (by omega)
      split <;> simp; omega
/-- The first record: where it stands, what is behind it. -/
structure Step1 (x : List UInt8) (at_ : Nat) (t : List UInt8) (at2 : Nat) : Prop where
  no : (10 : UInt8) ∉ t
  le : at_ + t.length ≤ x.length
  is : cut x at_ (at_ + t.length) = t
  how : (at_ + t.length = x.length ∧ at2 = x.length) ∨ (at_ + t.length + 1 < x.length ∧ x.getD (at_ + t.length) 0 = 13 ∧ x.getD (at_ + t.length + 1) 0 = 10 ∧ at2 = at_ + t.length + 2) ∨
    (at_ + t.length < x.length ∧ x.getD (at_ + t.length) 0 = 10 ∧ at2 = at_ + t.length + 1)
theorem getD_drop (x : List UInt8) (a j : Nat) : (x.drop a).getD j 0 = x.getD (a + j) 0 := by
  rw [List.getD_eq_getElem?_getD, List.getD_eq_getElem?_getD, List.getElem?_drop]
theorem lv_step (most : Nat) (x : List UInt8) (a n : Nat) (ha : a < x.length) (hm : x.length ≤ most) :
    ∃ t at2, Step1 x a t at2 ∧ at2 ≤ x.length ∧ a < at2 ∧ (lv most (x.drop a) a n).1 = ⟨n, a, t⟩ :: (lv most (x.drop at2) at2 (n + 1)).1 := by
  have hdl : (x.drop a).length = x.length - a := by simp
  have gd := getD_drop x a
  have ct : ∀ j, cut x a (a + j) = (x.drop a).take j := fun j => by unfold cut; rw [Nat.add_sub_cancel_left]
  rcases split_or (x.drop a) with h | ⟨hx, hn⟩ | ⟨y, z, e, hn⟩
  · rw [h] at hdl; simp at hdl; omega
  · refine ⟨x.drop a, x.length, ⟨hn, by omega, ?_, .inl ⟨by omega, rfl⟩⟩, Nat.le_refl _, ha, ?_⟩
    · rw [ct, List.take_length]
    · rw [lv_none most _ a n hn hx, if_neg (by omega), List.drop_length, lv_nil]
  · have hel : y.length + 1 + z.length = x.length - a := by rw [← hdl, e]; simp; omega
    have hz : x.drop (a + y.length + 1) = z := by
      have : x.drop (a + y.length + 1) = (x.drop a).drop (y.length + 1) := by rw [List.drop_drop]; rfl
      rw [this, e, ← List.drop_drop, List.drop_left]; rfl
    have hl := trimR_le y
    have hlv : (lv most (x.drop a) a n).1 = ⟨n, a, trimR y⟩ :: (lv most (x.drop (a + y.length + 1)) (a + y.length + 1) (n + 1)).1 := by
      rw [e, lv_cut most y z a n hn, if_neg (by omega), hz]
    have g10 : x.getD (a + y.length) 0 = 10 := by
      rw [← gd, e, List.getD_eq_getElem?_getD, List.getElem?_append_right (Nat.le_refl _)]; simp
    refine ⟨trimR y, a + y.length + 1, ?_, by omega, by omega, hlv⟩
    have hct : ∀ t : List UInt8, t.length ≤ y.length → y.take t.length = t → cut x a (a + t.length) = t := fun t h1 h2 => by
      rw [ct, e, List.take_append_of_le_length h1, h2]
    rcases trimR_or y with ⟨h1, -⟩ | h1
    · rw [h1]
      exact ⟨hn, by omega, hct y (Nat.le_refl _) (List.take_length), .inr (.inr ⟨by omega, g10, rfl⟩)⟩
    · have hyl : y.length = (trimR y).length + 1 := by rw [h1]; simp [trimR_13]
      have ht : y.take (trimR y).length = trimR y := by
        have := congrArg (List.take (trimR y).length) h1
        rw [List.take_left] at this; exact this
      refine ⟨fun h => hn (by rw [h1]; simp [h]), by omega, hct _ (by omega) ht, .inr (.inl ⟨by omega, ?_, ?_, by omega⟩)⟩
      · rw [← gd, e, List.getD_eq_getElem?_getD, List.getElem?_append_left (by omega)]
        have : y[(trimR y).length]? = some 13 := by
          rw [h1, List.getElem?_append_right (by rw [trimR_13]; exact Nat.le_refl _)]; simp [trimR_13]
        rw [this]; rfl
      · rw [show a + (trimR y).length + 1 = a + y.length by omega]; exact g10
end Go.Proofs.Ythgjfdjjnkgicaa
