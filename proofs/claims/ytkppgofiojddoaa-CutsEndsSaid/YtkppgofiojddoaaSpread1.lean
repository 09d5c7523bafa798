/-
  Contracts of Spread in both packages; no condition beyond those that each theorem states.
-/
import Derived.Test.YtkppgofiojddoaaInts
namespace Go.Proofs.Ytkppgofiojddoaa
open Go.RowKit Go.Rb

/-- The parts of a number. -/
def sP (n k : Int) (i : Nat) : Int := n / k + if k - i ≤ n % k then 1 else 0
def spreadK (n k : Int) : List Int := (List.range k.toNat).map (sP n k)
def partsK (n most : Int) : Int := (n - 1) / (max most 1) + 1
def spreadP (n most : Int) : List Int := if n < 1 then [] else spreadK n (partsK n most)

def doneTo (n k : Int) (K j : Nat) : List Int := (List.range K).map fun i => if i < j then sP n k i else 0
theorem doneTo_len (n k : Int) (K j : Nat) : (doneTo n k K j).length = K := by simp [doneTo]
theorem doneTo_set (n k : Int) (K j : Nat) (hj : j < K) : ((doneTo n k K j).map iV).toArray.setIfInBounds j (iV (sP n k j)) = ((doneTo n k K (j + 1)).map iV).toArray := by
  apply Array.ext_getElem?
  intro i
  rw [Array.getElem?_setIfInBounds]
  simp only [List.getElem?_toArray, List.size_toArray, List.length_map, doneTo_len]
  unfold doneTo
  simp only [List.getElem?_map, List.getElem?_range]
  by_cases hij : j = i
  · subst hij
    simp [hj]
  · rw [if_neg hij]
    by_cases hi : i < K
    · simp only [List.getElem?_range hi, Option.map_some]
      by_cases h1 : i < j
      · rw [if_pos h1, if_pos (by omega)]
      · rw [if_neg h1, if_neg (by omega)]
    · rw [List.getElem?_eq_none (by simp; omega)]
      rfl
theorem doneTo_all (n k : Int) (K : Nat) (hk : k.toNat = K) : doneTo n k K K = spreadK n k := by
  unfold doneTo spreadK
  rw [hk]
  apply List.map_congr_left
  intro i hi
  rw [if_pos (List.mem_range.1 hi)]
theorem doneTo_zero (n k : Int) (K : Nat) : ((doneTo n k K 0).map iV).toArray = madeCells #[.int .i64 0] K := by
  apply Array.ext_getElem?
  intro i
  unfold doneTo madeCells
  by_cases hi : i < K
  · simp [hi, iV, Nat.mod_one]
  · simp [hi]

set_option maxHeartbeats 2000000 in
theorem spread_hi (n most : Int) (K : Nat) (w : World) (h1 : 1 ≤ n) (h2 : n ≤ 2000) (hm : 1 ≤ most) (hk : (n - 1) / most + 1 = (K : Int)) (hK1 : 1 ≤ K) (hK2 : K ≤ 2000) :
    Calls Try.prog 8 #[.int .i64 n, .int .i64 most] w (RetNewI w (spreadK n K)) := by
  have hmk := fun W => run_make_row' (P := Try.prog) 23 3 (.int .i64 0) 8 Try.underlying23 info3 rfl .i64 .i64 K (by omega) (by omega) W
  have HALL := Lib.hid (doneTo_all n K K (by omega))
  have HZ := Lib.hid (doneTo_zero n K K)
  have hd0 : 0 ≤ (n - 1) / most := Int.ediv_nonneg (by omega) (by omega)
  have hd1 : (n - 1) / most ≤ 2000 := by have := Int.ediv_le_self most (show 0 ≤ n - 1 by omega); omega
  go_enter Try.func8, Try.ntmps8
  go_wp2
  clear hmk
  go_loopw [21] (fun i wr => ∃ j : Nat, j ≤ K ∧ i = .int .i64 j ∧ Below w.heap.size w wr ∧ Hid (Blk wr w.heap.size 3 ((doneTo n K K j).map iV).toArray)) (fun i _ => K - (intOf i).toNat)
  case atStart => exact ⟨0, by omega, rfl, below_al (Below.refl _ _) _, by unfold Hid; rw [HZ.out]; exact Blk.new _ _ _⟩
  case round =>
    obtain ⟨j, hj, rfl, hb, hB⟩ := hrel
    have HB := Lib.hid hb
    clear hb
    by_cases hlt : j < K
    · have hc := hB.out.cell j
      have hf := hB.out.frozen j
      have hcell : wr.cell? ⟨w.heap.size, j, none⟩ = some (.int .i64 0) := by
        rw [hc]
        simp [doneTo, hlt, iV]
      have hset := doneTo_set n K K j hlt
      have HS := Lib.hid hset
      clear hc hset
      have hq0 : 0 ≤ n / (K : Int) := Int.ediv_nonneg (by omega) (by omega)
      have hq1 : n / (K : Int) ≤ n := Int.ediv_le_self _ (by omega)
      have hKz : ((K : Int) == 0) = false := by rw [beq_eq_false_iff_ne]; omega
      have hr0 : 0 ≤ n % (K : Int) := Int.emod_nonneg _ (by omega)
      by_cases hle : (K : Int) - j ≤ n % (K : Int)
      · have hsp : Hid (sP n K j = n / (K : Int) + 1) := by unfold Hid sP; rw [if_pos hle]
        go_wp2
        go_roundw
        case rel =>
          refine ⟨j + 1, by omega, by go_num, (HB.out.setCell (Nat.le_refl _) _).setCell (Nat.le_refl _) _, ?_⟩
          show Blk _ _ _ _
          rw [← HS.out, hsp.out]
          have := (hB.out.set_ j (.int .i64 (n / (K : Int)))).set_ j (iV (n / (K : Int) + 1))
          simpa [iV] using this
        case measure => simp [intOf]; omega
      · have hsp : Hid (sP n K j = n / (K : Int)) := by unfold Hid sP; rw [if_neg hle]; omega
        go_wp2
        go_roundw
        case rel =>
          refine ⟨j + 1, by omega, by go_num, HB.out.setCell (Nat.le_refl _) _, ?_⟩
          show Blk _ _ _ _
          rw [← HS.out, hsp.out]
          exact hB.out.set_ j (iV (n / (K : Int)))
        case measure => simp [intOf]; omega
    · obtain rfl : j = K := by omega
      go_wp2
      go_ret
      refine ⟨_, rfl, ?_, HB.out, by simp [Value.ownBlock]⟩
      have hB' := hB.out
      have hlen : (spreadK n j).length = j := by rw [← HALL.out]; exact doneTo_len _ _ _ _
      rw [HALL.out] at hB'
      rw [hlen]
      exact ⟨by simp [hlen], .inr ⟨_, 0, j, _, rfl, hB', Nat.le_refl _, by simp only [maxLen]; omega, by simp [hlen], by simp only [List.drop_zero, Nat.mul_one]; exact List.take_of_length_le (by simp [hlen])⟩⟩

set_option maxHeartbeats 2000000 in
theorem spread_lo (n most : Int) (K : Nat) (w : World) (h1 : 1 ≤ n) (h2 : n ≤ 2000) (hm : most < 1) (hk : n = (K : Int)) (hK1 : 1 ≤ K) (hK2 : K ≤ 2000) :
    Calls Try.prog 8 #[.int .i64 n, .int .i64 most] w (RetNewI w (spreadK n K)) := by
  have hmk := fun W => run_make_row' (P := Try.prog) 23 3 (.int .i64 0) 8 Try.underlying23 info3 rfl .i64 .i64 K (by omega) (by omega) W
  have HALL := Lib.hid (doneTo_all n K K (by omega))
  have HZ := Lib.hid (doneTo_zero n K K)
  have hk2 : n - 1 + 1 = (K : Int) := by omega
  have HK := Lib.hid hk
  clear hk
  go_enter Try.func8, Try.ntmps8
  go_wp2
  clear hmk
  go_loopw [21] (fun i wr => ∃ j : Nat, j ≤ K ∧ i = .int .i64 j ∧ Below w.heap.size w wr ∧ Hid (Blk wr w.heap.size 3 ((doneTo n K K j).map iV).toArray)) (fun i _ => K - (intOf i).toNat)
  case atStart => exact ⟨0, by omega, rfl, below_al (Below.refl _ _) _, by unfold Hid; rw [HZ.out]; exact Blk.new _ _ _⟩
  case round =>
    obtain ⟨j, hj, rfl, hb, hB⟩ := hrel
    have HB := Lib.hid hb
    clear hb
    by_cases hlt : j < K
    · have hc := hB.out.cell j
      have hf := hB.out.frozen j
      have hcell : wr.cell? ⟨w.heap.size, j, none⟩ = some (.int .i64 0) := by
        rw [hc]
        simp [doneTo, hlt, iV]
      have hset := doneTo_set n K K j hlt
      have HS := Lib.hid hset
      clear hc hset
      have hq0 : 0 ≤ n / (K : Int) := Int.ediv_nonneg (by omega) (by omega)
      have hq1 : n / (K : Int) ≤ n := Int.ediv_le_self _ (by omega)
      have hKz : ((K : Int) == 0) = false := by rw [beq_eq_false_iff_ne]; omega
      have hr0 : 0 ≤ n % (K : Int) := Int.emod_nonneg _ (by omega)
      by_cases hle : (K : Int) - j ≤ n % (K : Int)
      · have hsp : Hid (sP n K j = n / (K : Int) + 1) := by unfold Hid sP; rw [if_pos hle]
        go_wp2
        go_roundw
        case rel =>
          refine ⟨j + 1, by omega, by go_num, (HB.out.setCell (Nat.le_refl _) _).setCell (Nat.le_refl _) _, ?_⟩
          show Blk _ _ _ _
          rw [← HS.out, hsp.out]
          have := (hB.out.set_ j (.int .i64 (n / (K : Int)))).set_ j (iV (n / (K : Int) + 1))
          simpa [iV] using this
        case measure => simp [intOf]; omega
      · have hsp : Hid (sP n K j = n / (K : Int)) := by unfold Hid sP; rw [if_neg hle]; omega
        go_wp2
        go_roundw
        case rel =>
          refine ⟨j + 1, by omega, by go_num, HB.out.setCell (Nat.le_refl _) _, ?_⟩
          show Blk _ _ _ _
          rw [← HS.out, hsp.out]
          exact hB.out.set_ j (iV (n / (K : Int)))
        case measure => simp [intOf]; omega
    · obtain rfl : j = K := by omega
      go_wp2
      go_ret
      refine ⟨_, rfl, ?_, HB.out, by simp [Value.ownBlock]⟩
      have hB' := hB.out
      have hlen : (spreadK n j).length = j := by rw [← HALL.out]; exact doneTo_len _ _ _ _
      rw [HALL.out] at hB'
      rw [hlen]
      exact ⟨by simp [hlen], .inr ⟨_, 0, j, _, rfl, hB', Nat.le_refl _, by simp only [maxLen]; omega, by simp [hlen], by simp only [List.drop_zero, Nat.mul_one]; exact List.take_of_length_le (by simp [hlen])⟩⟩

end Go.Proofs.Ytkppgofiojddoaa
