/-
  All matches rise: plain laws; no condition beyond those that each theorem states.
-/
import Derived.Test.YtjfkppbfckgckaaG14
set_option linter.unusedVariables false
set_option linter.unusedSimpArgs false
namespace Go.Proofs.Ytjfkppbfckgckaa
open Go.RowKit Go.Rb

/-- From where on is searched behind a match. -/
def startI : Option (Nat × Nat) → Nat
  | none => 0
  | some (a, e) => if a = e then e + 1 else e
theorem startI_some (a e : Nat) : startI (some (a, e)) = if a = e then e + 1 else e := rfl
/-- What is skipped: an empty match right behind another one. -/
def SkipI (L : Nat → Option Nat) (pv : Option (Nat × Nat)) (to : Nat) : Prop := ∀ j x, startI pv ≤ j → j < to → L j = some x → x = j ∧ ∃ a, pv = some (a, j)
def RiseI (L : Nat → Option Nat) (m : Nat) : Option (Nat × Nat) → List (Nat × Nat) → Prop
  | pv, [] => SkipI L pv (m + 1)
  | pv, (a, e) :: X => startI pv ≤ a ∧ a ≤ m ∧ L a = some e ∧ SkipI L pv a ∧ ¬ (a = e ∧ ∃ b, pv = some (b, e)) ∧ RiseI L m (some (a, e)) X
/-- Where the search stands. -/
def StI (L : Nat → Option Nat) (pv : Option (Nat × Nat)) (g : Nat) : Prop := g = startI pv ∨ ∃ a e, pv = some (a, e) ∧ a < e ∧ g = e + 1 ∧ L e = some e
theorem firstL_no {L : Nat → Option Nat} : ∀ (f g : Nat), firstL L f g = none → ∀ j, g ≤ j → j < g + f → L j = none
  | 0, g, h, j, h1, h2 => by omega
  | f + 1, g, h, j, h1, h2 => by
    rw [firstL] at h
    cases hl : L g with
    | some e => rw [hl] at h; simp at h
    | none =>
      rw [hl] at h
      rcases Nat.lt_or_eq_of_le h1 with h3 | rfl
      · exact firstL_no f (g + 1) h j h3 (by omega)
      · exact hl
theorem firstL_ahead {L : Nat → Option Nat} : ∀ (f g a e : Nat), firstL L f g = some (a, e) → ∀ j, g ≤ j → j < a → L j = none
  | 0, g, a, e, h, j, h1, h2 => by simp [firstL] at h
  | f + 1, g, a, e, h, j, h1, h2 => by
    rw [firstL] at h
    cases hl : L g with
    | some x =>
      rw [hl] at h
      simp only [Option.some.injEq, Prod.mk.injEq] at h
      omega
    | none =>
      rw [hl] at h
      rcases Nat.lt_or_eq_of_le h1 with h3 | rfl
      · exact firstL_ahead f (g + 1) a e h j h3 h2
      · exact hl
theorem st_skip {L : Nat → Option Nat} {pv : Option (Nat × Nat)} {g to : Nat} (hs : StI L pv g) (hn : ∀ j, g ≤ j → j < to → L j = none) : SkipI L pv to := by
  intro j x h1 h2 h3
  rcases hs with rfl | ⟨a, e, rfl, hae, rfl, hle⟩
  · rw [hn j h1 h2] at h3; simp at h3
  · have hst : startI (some (a, e)) = e := by rw [startI_some, if_neg (by omega)]
    rw [hst] at h1
    rcases Nat.lt_or_eq_of_le h1 with h4 | rfl
    · rw [hn j h4 h2] at h3; simp at h3
    · rw [hle] at h3
      exact ⟨(Option.some.inj h3).symm, a, rfl⟩
theorem allP_rise {L : Nat → Option Nat} {m : Nat} (hL : ∀ k e, k ≤ m → L k = some e → k ≤ e ∧ e ≤ m) : ∀ (f g : Nat) (pv : Option (Nat × Nat)) (out : List (Nat × Nat)), m + 2 ≤ f + g → StI L pv g → (∀ a e, pv = some (a, e) → a ≤ e) →
    ∃ X, allP L m f g (pv.map (·.2)) out = out ++ X ∧ RiseI L m pv X := by
  intro f
  induction f with
  | zero =>
    intro g pv out hf hs hp
    exact ⟨[], by rw [allP, List.append_nil], st_skip hs fun j h1 h2 => by omega⟩
  | succ f ih =>
    intro g pv out hf hs hp
    rw [allP]
    by_cases hmg : m < g
    · rw [if_pos hmg]
      exact ⟨[], (List.append_nil _).symm, st_skip hs fun j h1 h2 => by omega⟩
    rw [if_neg hmg]
    cases hF : firstL L (m + 1 - g) g with
    | none => exact ⟨[], (List.append_nil _).symm, st_skip hs fun j h1 h2 => firstL_no _ _ hF j h1 (by omega)⟩
    | some q =>
      obtain ⟨a, e⟩ := q
      obtain ⟨h1, h2, h3⟩ := firstL_some _ _ _ _ hF
      obtain ⟨h4, h5⟩ := hL a e (by omega) h3
      have hah := firstL_ahead _ _ _ _ hF
      have hsk : SkipI L pv a := st_skip hs fun j h1 h2 => hah j h1 h2
      have hga : startI pv ≤ a := by
        rcases hs with rfl | ⟨a', e', rfl, hae, rfl, hle⟩
        · exact h1
        · rw [startI_some, if_neg (by omega)]; omega
      simp only
      by_cases hae : a = e
      · subst hae
        rw [if_pos rfl]
        by_cases hl : pv.map (·.2) = some a
        · rw [if_pos hl]
          cases pv with
          | none => simp at hl
          | some q =>
            obtain ⟨b, c⟩ := q
            obtain rfl : c = a := by simpa using hl
            have hbc : b < c := by
              have h1 := hp b c rfl
              rcases Nat.lt_or_eq_of_le h1 with h | h
              · exact h
              · rw [startI_some, if_pos h] at hga; omega
            exact ih (c + 1) (some (b, c)) out (by omega) (.inr ⟨b, c, rfl, hbc, rfl, h3⟩) hp
        · rw [if_neg hl]
          obtain ⟨X, hX, hr⟩ := ih (a + 1) (some (a, a)) (out ++ [(a, a)]) (by omega) (.inl (by rw [startI_some, if_pos rfl])) (fun x y h => by simp only [Option.some.injEq, Prod.mk.injEq] at h; omega)
          refine ⟨(a, a) :: X, ?_, hga, by omega, h3, hsk, ?_, hr⟩
          · have : some a = (some (a, a)).map (fun q : Nat × Nat => q.2) := rfl
            rw [this, hX]; simp
          · rintro ⟨-, b, rfl⟩
            exact hl rfl
      · rw [if_neg hae]
        obtain ⟨X, hX, hr⟩ := ih e (some (a, e)) (out ++ [(a, e)]) (by omega) (.inl (by rw [startI_some, if_neg hae])) (fun x y h => by simp only [Option.some.injEq, Prod.mk.injEq] at h; omega)
        refine ⟨(a, e) :: X, ?_, hga, by omega, h3, hsk, fun h => hae h.1, hr⟩
        have : some e = (some (a, e)).map (fun q : Nat × Nat => q.2) := rfl
        rw [this, hX]; simp
/-- The match ahead of the i-th. -/
def pvI (X : List (Nat × Nat)) (i : Nat) : Option (Nat × Nat) := if i = 0 then none else X[i - 1]?
theorem rise_at {L : Nat → Option Nat} {m : Nat} : ∀ (X : List (Nat × Nat)) (pv : Option (Nat × Nat)), RiseI L m pv X → ∀ i, i ≤ X.length → ∃ p, p = (if i = 0 then pv else X[i - 1]?) ∧
    (∀ a e, X[i]? = some (a, e) → startI p ≤ a ∧ a ≤ m ∧ L a = some e ∧ SkipI L p a ∧ ¬ (a = e ∧ ∃ b, p = some (b, e))) ∧ (i = X.length → SkipI L p (m + 1))
  | [], pv, h, i, hi => by
    obtain rfl : i = 0 := by simpa using hi
    exact ⟨pv, rfl, fun a e h => by simp at h, fun _ => h⟩
  | (a, e) :: X, pv, h, 0, hi => by
    obtain ⟨h1, h2, h3, h4, h5, h6⟩ := h
    refine ⟨pv, rfl, fun x y hx => ?_, fun h => by simp at h⟩
    obtain ⟨rfl, rfl⟩ : a = x ∧ e = y := by simpa using hx
    exact ⟨h1, h2, h3, h4, h5⟩
  | (a, e) :: X, pv, h, i + 1, hi => by
    obtain ⟨h1, h2, h3, h4, h5, h6⟩ := h
    obtain ⟨p, hp, hq, hr⟩ := rise_at X (some (a, e)) h6 i (by simpa using hi)
    refine ⟨p, ?_, fun x y hx => hq x y (by simpa using hx), fun h => hr (by simpa using h)⟩
    rw [hp]
    cases i with
    | zero => rfl
    | succ i => rw [if_neg (Nat.succ_ne_zero i), if_neg (Nat.succ_ne_zero (i + 1))]; rfl
/-- Of the matches of a text: each, and what is between them. -/
theorem rise_all {L : Nat → Option Nat} {m : Nat} (hL : ∀ k e, k ≤ m → L k = some e → k ≤ e ∧ e ≤ m) {X : List (Nat × Nat)} (hX : allP L m (m + 2) 0 none [] = X) : ∀ i, i ≤ X.length →
    (∀ a e, X[i]? = some (a, e) → startI (pvI X i) ≤ a ∧ a ≤ m ∧ L a = some e ∧ SkipI L (pvI X i) a ∧ ¬ (a = e ∧ ∃ b, pvI X i = some (b, e))) ∧ (i = X.length → SkipI L (pvI X i) (m + 1)) := by
  obtain ⟨Y, hY, hr⟩ := allP_rise hL (m + 2) 0 none [] (by omega) (.inl rfl) (fun a e h => by simp at h)
  rw [List.nil_append] at hY
  obtain rfl : X = Y := hX.symm.trans hY
  intro i hi
  obtain ⟨p, hp, hq⟩ := rise_at X none hr i hi
  subst hp
  exact hq
end Go.Proofs.Ytjfkppbfckgckaa
