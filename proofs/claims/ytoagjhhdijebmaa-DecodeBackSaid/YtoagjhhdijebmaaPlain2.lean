/-
  Plain facts: what code.Get computes is what the definition says, and a code point's octets are read back; no condition beyond those that each theorem states.
-/
import Derived.Test.YtoagjhhdijebmaaRefGet2
import Derived.Test.YtoagjhhdijebmaaPlain1
namespace Go.Proofs.Ytoagjhhdijebmaa
open Go.RowKit Go.Rb

theorem by_of (c : UInt8) (n : Int) (h : n = (c.toNat : Int)) : by_ n = c := by
  subst h
  unfold by_
  simp

theorem putV_1 {r : Int} (h : r < 128) : putV r = [by_ r] := by unfold putV; rw [if_pos h]
theorem putV_2 {r : Int} (h0 : 128 ≤ r) (h : r < 2048) : putV r = put2 r := by unfold putV; rw [if_neg (by omega), if_pos h]
theorem putV_3 {r : Int} (h0 : 2048 ≤ r) (h : r < 65536) : putV r = put3 r := by unfold putV; rw [if_neg (by omega), if_neg (by omega), if_pos h]
theorem putV_4 {r : Int} (h0 : 65536 ≤ r) : putV r = put4 r := by unfold putV; rw [if_neg (by omega), if_neg (by omega), if_neg (by omega)]

theorem lenB_1 {c : Int} (h : c < 128) : lenB c = 1 := by unfold lenB; rw [if_pos h]
theorem lenB_2 {c : Int} (h0 : 194 ≤ c) (h : c < 224) : lenB c = 2 := by unfold lenB; rw [if_neg (by omega), if_pos ⟨h0, h⟩]
theorem lenB_3 {c : Int} (h0 : 224 ≤ c) (h : c < 240) : lenB c = 3 := by unfold lenB; rw [if_neg (by omega), if_neg (by omega), if_pos ⟨h0, h⟩]
theorem lenB_4 {c : Int} (h0 : 240 ≤ c) (h : c < 245) : lenB c = 4 := by unfold lenB; rw [if_neg (by omega), if_neg (by omega), if_neg (by omega), if_pos ⟨h0, h⟩]

/-- A code point's octets are read back, whatever stands behind. -/
theorem getP_put (r : Int) (rest : List UInt8) (hb : isB r = true) : getP (putV r ++ rest) = (r, sizeI r) := by
  rcases size_cases r with ⟨hb', hs⟩ | ⟨_, h0, h1, ⟨h2, hs⟩ | ⟨h2, h3, hs⟩ | ⟨h2, h3, hs⟩ | ⟨h2, hs⟩⟩
  · rw [hb] at hb'; cases hb'
  · have e0 := by_toNat r (by omega) (by omega)
    rw [hs, putV_1 h2]
    show getP (by_ r :: rest) = _
    rw [getP_one _ _ (by rw [e0]; exact lenB_1 h2), e0]
  · have e0 := by_toNat (192 + r / 64) (by omega) (by omega)
    have e1 := by_toNat (128 + r % 64) (by omega) (by omega)
    rw [hs, putV_2 h2 h3]
    show getP (by_ _ :: by_ _ :: rest) = _
    rw [getP_2 _ _ _ (by rw [e0]; exact lenB_2 (by omega) (by omega)), if_pos (by unfold cont; rw [e1]; omega)]
    unfold low
    rw [e0, e1, show (192 + r / 64) % 32 * 64 + (128 + r % 64) % 64 = r by omega]
    unfold finG
    rw [if_pos hs]
  · have e0 := by_toNat (224 + r / 4096) (by omega) (by omega)
    have e1 := by_toNat (128 + r / 64 % 64) (by omega) (by omega)
    have e2 := by_toNat (128 + r % 64) (by omega) (by omega)
    rw [hs, putV_3 h2 h3]
    show getP (by_ _ :: by_ _ :: by_ _ :: rest) = _
    rw [getP_3 _ _ _ _ (by rw [e0]; exact lenB_3 (by omega) (by omega)), if_pos (by unfold cont; rw [e1]; omega), if_pos (by unfold cont; rw [e2]; omega)]
    unfold low
    rw [e0, e1, e2, show ((224 + r / 4096) % 16 * 64 + (128 + r / 64 % 64) % 64) * 64 + (128 + r % 64) % 64 = r by omega]
    unfold finG
    rw [if_pos hs]
  · have e0 := by_toNat (240 + r / 262144) (by omega) (by omega)
    have e1 := by_toNat (128 + r / 4096 % 64) (by omega) (by omega)
    have e2 := by_toNat (128 + r / 64 % 64) (by omega) (by omega)
    have e3 := by_toNat (128 + r % 64) (by omega) (by omega)
    rw [hs, putV_4 h2]
    show getP (by_ _ :: by_ _ :: by_ _ :: by_ _ :: rest) = _
    rw [getP_4 _ _ _ _ _ (by rw [e0]; exact lenB_4 (by omega) (by omega)), if_pos (by unfold cont; rw [e1]; omega), if_pos (by unfold cont; rw [e2]; omega), if_pos (by unfold cont; rw [e3]; omega)]
    unfold low
    rw [e0, e1, e2, e3, show (((240 + r / 262144) % 8 * 64 + (128 + r / 4096 % 64) % 64) * 64 + (128 + r / 64 % 64) % 64) * 64 + (128 + r % 64) % 64 = r by omega]
    unfold finG
    rw [if_pos hs]

theorem putV_len (r : Int) (hb : isB r = true) : ((putV r).length : Int) = sizeI r := by
  rcases size_cases r with ⟨hb', hs⟩ | ⟨_, h0, h1, ⟨h2, hs⟩ | ⟨h2, h3, hs⟩ | ⟨h2, h3, hs⟩ | ⟨h2, hs⟩⟩
  · rw [hb] at hb'; cases hb'
  · rw [hs, putV_1 h2]; rfl
  · rw [hs, putV_2 h2 h3]; rfl
  · rw [hs, putV_3 h2 h3]; rfl
  · rw [hs, putV_4 h2]; rfl
theorem putL_of {r : Int} (hb : isB r = true) : putL r = putV r := by unfold putL; rw [if_pos hb]

/-- Where the definition finds a code point, Get gives it. -/
theorem getP_of_ok (l : List UInt8) (k : Nat) (hk : k ≤ l.length) (h : okN l k = true) : getP l = (valP (l.take k), (k : Int)) := by
  unfold okN at h
  generalize valP (l.take k) = x at h ⊢
  rw [Bool.and_eq_true, beq_iff_eq] at h
  obtain ⟨hb, hp⟩ := h
  rw [putL_of hb] at hp
  have hl : l = putV x ++ l.drop k := by rw [hp, List.take_append_drop]
  have hs := putV_len x hb
  rw [hp, List.length_take, Nat.min_eq_left hk] at hs
  rw [hl, getP_put x _ hb, ← hs]

theorem finG_good {n r : Int} (h : finG n r ≠ badG) : sizeI r = n := by
  unfold finG at h
  split at h
  · assumption
  · exact absurd rfl h
theorem isB_of_size {r n : Int} (h : sizeI r = n) (hn : n ≠ 0) : isB r = true := by
  cases hb : isB r
  · rw [sizeI_wrong hb] at h; omega
  · rfl
theorem range_of_size {r : Int} (hb : isB r = true) : (sizeI r = 3 → 2048 ≤ r ∧ r < 65536) ∧ (sizeI r = 4 → 65536 ≤ r) ∧ (sizeI r = 2 → 128 ≤ r ∧ r < 2048) := by
  rcases size_cases r with ⟨hb', hs⟩ | ⟨_, h0, h1, ⟨h2, hs⟩ | ⟨h2, h3, hs⟩ | ⟨h2, h3, hs⟩ | ⟨h2, hs⟩⟩
  · rw [hb] at hb'; cases hb'
  all_goals (rw [hs]; refine ⟨fun h => ?_, fun h => ?_, fun h => ?_⟩ <;> omega)

/-- Where Get finds one, so does the definition. -/
theorem ok_of_getP (l : List UInt8) (h0 : l ≠ []) (h : getP l ≠ badG) : ∃ k, 1 ≤ k ∧ k ≤ 4 ∧ k ≤ l.length ∧ okN l k = true := by
  obtain ⟨c0, rest, rfl⟩ : ∃ c0 rest, l = c0 :: rest := by
    cases l with
    | nil => exact absurd rfl h0
    | cons c0 rest => exact ⟨c0, rest, rfl⟩
  have b0 := u8_lt c0
  rcases lenB_cases (c0.toNat : Int) with ⟨h1, hl⟩ | ⟨h1, h2, hl⟩ | ⟨h1, h2, hl⟩ | ⟨h1, h2, hl⟩ | ⟨h1, h2, hl⟩ | ⟨h1, hl⟩
  · refine ⟨1, by omega, by omega, by simp, ?_⟩
    have hv : valP ((c0 :: rest).take 1) = (c0.toNat : Int) := by
      show valHead _ = _
      unfold valHead
      rw [if_neg (by omega), if_neg (by omega), if_neg (by omega)]
    have hb : isB (c0.toNat : Int) = true := isB_true.2 (by omega)
    unfold okN
    rw [hv, hb, putL_of hb, putV_1 h1, by_of c0 _ rfl]
    simp
  · exact absurd (getP_zero c0 rest hl) h
  · rcases rest with _ | ⟨c1, rest⟩
    · exact absurd (getP_2s1 c0 hl) h
    · rw [getP_2 c0 c1 rest hl] at h
      have b1 := u8_lt c1
      by_cases k1 : cont c1
      · rw [if_pos k1] at h
        unfold low at h
        unfold cont at k1
        refine ⟨2, by omega, by omega, by simp, ?_⟩
        generalize hr : (c0.toNat : Int) % 32 * 64 + (c1.toNat : Int) % 64 = r at h
        have hb := isB_of_size (finG_good h) (by omega)
        have hrg := (range_of_size hb).2.2 (finG_good h)
        have hv : valP ((c0 :: c1 :: rest).take 2) = r := by
          show vStep (valHead _) _ = _
          unfold valHead vStep
          rw [if_neg (by omega), if_neg (by omega), if_pos (by omega)]
          omega
        unfold okN
        rw [hv, hb, putL_of hb, putV_2 hrg.1 hrg.2]
        unfold put2
        rw [by_of c0 (192 + r / 64) (by omega), by_of c1 (128 + r % 64) (by omega)]
        simp
      · rw [if_neg k1] at h; exact absurd rfl h
  · rcases rest with _ | ⟨c1, _ | ⟨c2, rest⟩⟩
    · exact absurd (getP_3s1 c0 hl) h
    · exact absurd (getP_3s2 c0 c1 hl) h
    · rw [getP_3 c0 c1 c2 rest hl] at h
      have b1 := u8_lt c1
      have b2 := u8_lt c2
      by_cases k1 : cont c1
      · rw [if_pos k1] at h
        by_cases k2 : cont c2
        · rw [if_pos k2] at h
          unfold low at h
          unfold cont at k1 k2
          refine ⟨3, by omega, by omega, by simp, ?_⟩
          generalize hr : ((c0.toNat : Int) % 16 * 64 + (c1.toNat : Int) % 64) * 64 + (c2.toNat : Int) % 64 = r at h
          have hb := isB_of_size (finG_good h) (by omega)
          have hrg := (range_of_size hb).1 (finG_good h)
          have hv : valP ((c0 :: c1 :: c2 :: rest).take 3) = r := by
            show vStep (vStep (valHead _) _) _ = _
            unfold valHead vStep
            rw [if_neg (by omega), if_pos (by omega)]
            omega
          unfold okN
          rw [hv, hb, putL_of hb, putV_3 hrg.1 hrg.2]
          unfold put3
          rw [by_of c0 (224 + r / 4096) (by omega), by_of c1 (128 + r / 64 % 64) (by omega), by_of c2 (128 + r % 64) (by omega)]
          simp
        · rw [if_neg k2] at h; exact absurd rfl h
      · rw [if_neg k1] at h; exact absurd rfl h
  · rcases rest with _ | ⟨c1, _ | ⟨c2, _ | ⟨c3, rest⟩⟩⟩
    · exact absurd (getP_4s1 c0 hl) h
    · exact absurd (getP_4s2 c0 c1 hl) h
    · exact absurd (getP_4s3 c0 c1 c2 hl) h
    · rw [getP_4 c0 c1 c2 c3 rest hl] at h
      have b1 := u8_lt c1
      have b2 := u8_lt c2
      have b3 := u8_lt c3
      by_cases k1 : cont c1
      · rw [if_pos k1] at h
        by_cases k2 : cont c2
        · rw [if_pos k2] at h
          by_cases k3 : cont c3
          · rw [if_pos k3] at h
            unfold low at h
            unfold cont at k1 k2 k3
            refine ⟨4, by omega, by omega, by simp, ?_⟩
            generalize hr : (((c0.toNat : Int) % 8 * 64 + (c1.toNat : Int) % 64) * 64 + (c2.toNat : Int) % 64) * 64 + (c3.toNat : Int) % 64 = r at h
            have hb := isB_of_size (finG_good h) (by omega)
            have hrg := (range_of_size hb).2.1 (finG_good h)
            have hv : valP ((c0 :: c1 :: c2 :: c3 :: rest).take 4) = r := by
              show vStep (vStep (vStep (valHead _) _) _) _ = _
              unfold valHead vStep
              rw [if_pos (by omega)]
              omega
            unfold okN
            rw [hv, hb, putL_of hb, putV_4 hrg]
            unfold put4
            rw [by_of c0 (240 + r / 262144) (by omega), by_of c1 (128 + r / 4096 % 64) (by omega), by_of c2 (128 + r / 64 % 64) (by omega), by_of c3 (128 + r % 64) (by omega)]
            simp
          · rw [if_neg k3] at h; exact absurd rfl h
        · rw [if_neg k2] at h; exact absurd rfl h
      · rw [if_neg k1] at h; exact absurd rfl h
  · exact absurd (getP_zero c0 rest hl) h

theorem refAt_eq (l : List UInt8) : ∀ (fuel k : Nat), k + fuel = 6 → (∀ j, 1 ≤ j → j < k → okN l j = false) → 1 ≤ k → (∃ j, 1 ≤ j ∧ j ≤ 4 ∧ j ≤ l.length ∧ okN l j = true) ∨ getP l = badG → refAt l fuel k = getP l := by
  intro fuel
  induction fuel with
  | zero =>
    intro k hk hno _ hor
    rcases hor with ⟨j, h1, h4, _, hj⟩ | h
    · rw [hno j h1 (by omega)] at hj; cases hj
    · exact h.symm
  | succ fuel ih =>
    intro k hk hno hk1 hor
    unfold refAt
    by_cases hc : k ≤ 4 ∧ k ≤ l.length
    · rw [if_pos hc]
      by_cases ho : okN l k = true
      · rw [if_pos ho]; exact (getP_of_ok l k hc.2 ho).symm
      · rw [if_neg ho]
        refine ih (k + 1) (by omega) (fun j h1 h2 => ?_) (by omega) hor
        by_cases hjk : j = k
        · subst hjk; simpa using ho
        · exact hno j h1 (by omega)
    · rw [if_neg hc]
      rcases hor with ⟨j, h1, h4, h5, hj⟩ | h
      · rw [hno j h1 (by omega)] at hj; cases hj
      · exact h.symm

/-- Get is what the definition says. -/
theorem refP_eq (l : List UInt8) : refP l = getP l := by
  unfold refP
  by_cases h : l.length = 0
  · rw [if_pos h]
    obtain rfl := List.eq_nil_of_length_eq_zero h
    rfl
  · rw [if_neg h]
    refine refAt_eq l 5 1 rfl (fun j h1 h2 => by omega) (by omega) ?_
    by_cases hb : getP l = badG
    · exact .inr hb
    · exact .inl (ok_of_getP l (by rintro rfl; exact h rfl) hb)
end Go.Proofs.Ytoagjhhdijebmaa
