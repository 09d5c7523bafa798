/-
  The plain law of Spread: its parts are like, rising, within the most, and as few as may be; no condition beyond those that each theorem states.
-/
import Derived.Test.YtkppgofiojddoaaSpread2
namespace Go.Proofs.Ytkppgofiojddoaa
open Go.RowKit Go.Rb

def sumTo (zs : List Int) (k : Nat) : Int := (zs.take k).sum
theorem sumTo_succ (zs : List Int) (k : Nat) (hk : k < zs.length) : sumTo zs (k + 1) = sumTo zs k + zs.getD k 0 := by
  unfold sumTo
  rw [List.take_succ_eq_append_getElem hk, List.sum_append]
  simp [List.getD, List.getElem?_eq_getElem hk]

theorem sumTo_sP (n k : Int) (K : Nat) (hk : k = (K : Int)) (hm : n % k < k) (h0 : 0 ≤ n % k) (j : Nat) (hj : j ≤ K) :
    sumTo (spreadK n k) j = (j : Int) * (n / k) + max 0 ((j : Int) - (k - n % k)) := by
  have hl : (spreadK n k).length = K := by simp [spreadK, hk]
  induction j with
  | zero => simp [sumTo]; omega
  | succ j ih =>
    rw [sumTo_succ _ _ (by omega), ih (by omega)]
    have e : (spreadK n k).getD j 0 = sP n k j := by
      have h1 : j < (spreadK n k).length := by omega
      have h2 : (spreadK n k)[j] = sP n k j := by simp [spreadK]
      simp [List.getD, List.getElem?_eq_getElem h1, h2]
    rw [e]
    have : (((j + 1 : Nat)) : Int) * (n / k) = (j : Int) * (n / k) + n / k := by rw [Int.natCast_add, Int.add_mul]; simp
    rw [this]
    unfold sP
    generalize (j : Int) * (n / k) = X
    split <;> omega

/-- What the law asks. -/
structure SpOk (n M : Int) (zs : List Int) (K : Nat) : Prop where
  len : zs.length = K
  k0 : 1 ≤ K
  k1 : K ≤ 2000
  one : ∀ i, i < K → 1 ≤ zs.getD i 0
  most : ∀ i, i < K → zs.getD i 0 ≤ M
  rise : ∀ i, i + 1 < K → zs.getD i 0 ≤ zs.getD (i + 1) 0
  like : ∀ i, i < K → zs.getD i 0 ≤ zs.getD 0 0 + 1
  sum : sumTo zs K = n
  sumb : ∀ i, i ≤ K → 0 ≤ sumTo zs i ∧ sumTo zs i ≤ n
  few0 : 0 ≤ ((K : Int) - 1) * M
  few : ((K : Int) - 1) * M < n

theorem spread_ok (n most : Int) (h1 : 1 ≤ n) (h2 : n ≤ 2000) : ∃ K, SpOk n (max most 1) (spreadP n most) K := by
  have hM : 1 ≤ max most 1 := by omega
  unfold spreadP
  rw [if_neg (by omega)]
  unfold partsK
  generalize max most 1 = M at *
  have hq0 : 0 ≤ (n - 1) / M := Int.ediv_nonneg (by omega) (by omega)
  have hq1 : (n - 1) / M ≤ n - 1 := Int.ediv_le_self M (by omega)
  have hqm : (n - 1) / M * M ≤ n - 1 := Int.ediv_mul_le (n - 1) (by omega)
  have hqm2 : n - 1 < ((n - 1) / M + 1) * M := Int.lt_ediv_add_one_mul_self (n - 1) (by omega)
  generalize hq : (n - 1) / M = q at *
  obtain ⟨K, hK⟩ := Int.eq_ofNat_of_zero_le (show 0 ≤ q + 1 by omega)
  rw [hK] at hqm2 ⊢
  have hKp : (0 : Int) < (K : Int) := by omega
  have hdm : (K : Int) * (n / K) + n % K = n := Int.mul_ediv_add_emod n K
  have hm0 : 0 ≤ n % (K : Int) := Int.emod_nonneg n (by omega)
  have hm1 : n % (K : Int) < K := Int.emod_lt_of_pos n hKp
  have hd1 : 1 ≤ n / (K : Int) := by
    rw [Int.le_ediv_iff_mul_le hKp]; omega
  have hS := sumTo_sP n K K rfl hm1 hm0
  have hl : (spreadK n (K : Int)).length = K := by simp [spreadK]
  have hg : ∀ j, j < K → (spreadK n (K : Int)).getD j 0 = sP n K j := by
    intro j hj
    have h1 : j < (spreadK n (K : Int)).length := by omega
    have h2 : (spreadK n (K : Int))[j] = sP n K j := by simp [spreadK]
    simp [List.getD, List.getElem?_eq_getElem h1, h2]
  have hdM : n / (K : Int) ≤ M ∧ (n % (K : Int) ≠ 0 → n / (K : Int) + 1 ≤ M) := by
    have hc : (K : Int) * (n / K) ≤ n := by omega
    constructor
    · have h3 : (K : Int) * (n / K) < (K : Int) * (M + 0) + 1 := by rw [Int.add_zero, Int.mul_comm (K : Int) M, Int.mul_comm M]; omega
      rw [Int.add_zero] at h3
      exact Int.le_of_mul_le_mul_left (by omega) hKp
    · intro hne
      have h3 : (K : Int) * (n / K) < (K : Int) * M := by rw [Int.mul_comm (K : Int) M, Int.mul_comm M]; omega
      have := Int.lt_of_mul_lt_mul_left h3 (by omega)
      omega
  generalize hd : n / (K : Int) = d at *
  generalize hmm : n % (K : Int) = m at *
  have hsP : ∀ j : Nat, sP n K j = d + if (K : Int) - j ≤ m then 1 else 0 := by intro j; unfold sP; rw [hd, hmm]
  refine ⟨K, hl, by omega, by omega, ?_, ?_, ?_, ?_, ?_, ?_, ?_, ?_⟩
  · intro i hi; rw [hg i hi, hsP]; split <;> omega
  · intro i hi; rw [hg i hi, hsP]
    split
    · exact hdM.2 (by omega)
    · omega
  · intro i hi; rw [hg i (by omega), hg (i + 1) hi, hsP, hsP]; split <;> split <;> omega
  · intro i hi; rw [hg i hi, hg 0 (by omega), hsP, hsP]; split <;> split <;> omega
  · rw [hS K (by omega)]; omega
  · intro i hi
    rw [hS i hi]
    have h3 : 0 ≤ (i : Int) * d := Int.mul_nonneg (by omega) (by omega)
    have h4 : (i : Int) * d ≤ (K : Int) * d := Int.mul_le_mul_of_nonneg_right (by omega) (by omega)
    omega
  · exact Int.mul_nonneg (by omega) (by omega)
  · have : (K : Int) - 1 = q := by omega
    rw [this]; omega
end Go.Proofs.Ytkppgofiojddoaa
