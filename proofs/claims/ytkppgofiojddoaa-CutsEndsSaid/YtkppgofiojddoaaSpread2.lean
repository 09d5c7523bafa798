/-
  The contract of reedbedref04.Spread, and that both Spreads are one; no condition beyond those that each theorem states.
-/
import Derived.Test.YtkppgofiojddoaaSpread1
namespace Go.Proofs.Ytkppgofiojddoaa
open Go.RowKit Go.Rb

def refS : Nat → Int → List Int
  | 0, _ => []
  | k + 1, n => n / ((k + 1 : Nat) : Int) :: refS k (n - n / ((k + 1 : Nat) : Int))
theorem refS_len (k : Nat) (n : Int) : (refS k n).length = k := by
  induction k generalizing n with
  | zero => rfl
  | succ k ih => simp [refS, ih]

theorem spread_step (n : Int) (k : Nat) (h0 : 0 ≤ n) : spreadK n ((k + 1 : Nat) : Int) = n / ((k + 1 : Nat) : Int) :: spreadK (n - n / ((k + 1 : Nat) : Int)) (k : Int) := by
  have hk : (0 : Int) < ((k + 1 : Nat) : Int) := by omega
  generalize hq : n / ((k + 1 : Nat) : Int) = q
  generalize hr : n % ((k + 1 : Nat) : Int) = r
  have hqr : q * ((k + 1 : Nat) : Int) + r = n := by rw [← hq, ← hr]; exact Int.ediv_mul_add_emod n _
  have hr0 : 0 ≤ r := by rw [← hr]; exact Int.emod_nonneg _ (by omega)
  have hr1 : r < ((k + 1 : Nat) : Int) := by rw [← hr]; exact Int.emod_lt_of_pos _ hk
  have hq0 : 0 ≤ q := by rw [← hq]; exact Int.ediv_nonneg h0 (by omega)
  apply List.ext_getElem
  · simp [spreadK]
  · intro i h1 h2
    have hi : i < k + 1 := by simpa [spreadK] using h1
    have hL : (spreadK n ((k + 1 : Nat) : Int))[i] = sP n ((k + 1 : Nat) : Int) i := by simp [spreadK]
    rw [hL]
    unfold sP
    rw [hq, hr]
    rcases i with _ | i
    · rw [if_neg (by omega)]
      simp
    · have hR : (q :: spreadK (n - q) (k : Int))[i + 1] = sP (n - q) (k : Int) i := by simp [spreadK]
      rw [hR]
      unfold sP
      have hkk : (0 : Int) < (k : Int) := by omega
      have hn : n - q = q * (k : Int) + r := by
        have : q * ((k + 1 : Nat) : Int) = q * (k : Int) + q := by rw [show ((k + 1 : Nat) : Int) = (k : Int) + 1 by omega, Int.mul_add, Int.mul_one]
        omega
      by_cases hrk : r = (k : Int)
      · have e1 : n - q = (q + 1) * (k : Int) := by rw [hn, hrk, Int.add_mul, Int.one_mul]
        rw [e1, Int.mul_ediv_cancel _ (by omega), Int.mul_emod_left]
        rw [if_pos (by omega), if_neg (by omega)]
        omega
      · have e1 : (n - q) / (k : Int) = q := by
          rw [hn, Int.add_comm, Int.add_mul_ediv_right _ _ (by omega), Int.ediv_eq_zero_of_lt hr0 (by omega)]; omega
        have e2 : (n - q) % (k : Int) = r := by
          rw [hn, Int.add_comm, Int.add_mul_emod_self_right]; exact Int.emod_eq_of_lt hr0 (by omega)
        rw [e1, e2]
        congr 1
        by_cases h : ((k + 1 : Nat) : Int) - ((i + 1 : Nat) : Int) ≤ r
        · rw [if_pos h, if_pos (by omega)]
        · rw [if_neg h, if_neg (by omega)]
theorem refS_eq (k : Nat) (n : Int) (h0 : 0 ≤ n) : refS k n = spreadK n k := by
  induction k generalizing n with
  | zero => simp [refS, spreadK]
  | succ k ih =>
    rw [spread_step n k h0, refS]
    congr 1
    refine ih _ ?_
    have := Int.ediv_le_self ((k + 1 : Nat) : Int) h0
    omega

set_option maxHeartbeats 2000000 in
theorem refSpread_one (most : Int) (K : Nat) (w : World) (hK1 : 1 ≤ K) (hK2 : K ≤ 2000) (hm : most < 1) :
    Calls Try.prog 10 #[.int .i64 (K : Int), .int .i64 most] w (RetNewI w (refS K (K : Int))) := by
  obtain ⟨i0, hi0, hz0, hz1, hz2⟩ := info_parts info3
  go_enter Try.func10, Try.ntmps10
  go_wp2
  go_loopw [0, 5, 6] (fun x k v wr => ∃ (j : Nat) (y : Int) (zs : List Int), j ≤ K ∧ x = .int .i64 y ∧ k = .int .i64 ((K - j : Nat) : Int) ∧ 0 ≤ y ∧ y ≤ 2000 ∧ Hid (refS K (K : Int) = zs ++ refS (K - j) y) ∧ Hid (zs.length = j) ∧
      Hid (Own wr 3 1 v j (zs.map iV)) ∧ Below w.heap.size w wr ∧ Hid (∀ g, v.ownBlock = some g → w.heap.size ≤ g)) (fun _ k _ _ => (intOf k).toNat)
  case atStart => exact ⟨0, (K : Int), [], by omega, rfl, by first | (simp; done) | (simp; omega), by omega, by omega, by unfold Hid; simp, rfl, Own.nil_ _ _ _, Below.refl _ _, by simp [Hid, Value.ownBlock]⟩
  case round =>
    obtain ⟨j, y, zs, hj, rfl, rfl, hy0, hy1, hrs, hzl, hown, hb, hbk⟩ := hrel
    have HB := Lib.hid hb
    clear hb
    by_cases hlt : j < K
    · obtain ⟨i, hi⟩ : ∃ i, K - j = i + 1 := ⟨K - j - 1, by omega⟩
      have hrs' : Hid (refS K (K : Int) = (zs ++ [y / ((i + 1 : Nat) : Int)]) ++ refS i (y - y / ((i + 1 : Nat) : Int))) := by
        have := hrs.out
        rw [hi, refS] at this
        show _ = _
        rw [this]; simp
      have hkj : K - (j + 1) = i := by omega
      have HKJ := Lib.hid hkj
      rw [hi]
      have hij : i + j + 1 = K := by omega
      have hq0 : 0 ≤ y / ((i : Int) + 1) := Int.ediv_nonneg (by omega) (by omega)
      have hq1 : y / ((i : Int) + 1) ≤ y := Int.ediv_le_self _ hy0
      have hiz : (((i : Int) + 1) == 0) = false := by rw [beq_eq_false_iff_ne]; omega
      clear hi hkj hrs
      have h63 : j + 1 ≤ maxLen := by simp only [maxLen]; omega
      have H63 := Lib.hid h63
      clear h63
      have hcast : ((i + 1 : Nat) : Int) = (i : Int) + 1 := by omega
      rw [hcast] at hrs' ⊢
      clear hcast
      go_wp2_with (at_builtin; refine wpList_append_mine _ rfl (.tmp 23) (.tmp 27) _ rfl 3 i0 _ 1 8 Try.underlying23 hi0 hz0 hz1 hz2 rfl (by omega) _ j (zs.map iV) rfl (by exact hown.out.alloc _) _ 1 1 [_] rfl rfl (by exact news_push rfl rfl) (by simp [Value.oneCell']) (by omega) H63.out (by omega) _ rfl ?_; intro g o cp w2 hown2 hgrow2 hat2)
      have hb2 : Below w.heap.size w w2 := Below.grown (below_al HB.out _) hgrow2 (by have := HB.out.size; simp; omega) (fun k hk => hbk.out k hk)
      have HB2 := Lib.hid hb2
      have hg2 : Hid (w.heap.size ≤ g) := by
        have := HB.out.size
        rcases hat2 with h | h
        · exact hbk.out g h
        · simp at h; show _ ≤ _; omega
      have HO2 := Lib.hid hown2
      clear hb2 hown2 hgrow2 hat2
      go_wp2
      go_roundw
      case rel =>
        refine ⟨j + 1, _, zs ++ [y / ((i : Int) + 1)], by omega, rfl, by first | (rw [HKJ.out]; done) | (rw [HKJ.out]; go_num), by omega, by omega, by rw [HKJ.out]; exact hrs', by have := hzl.out; simp [Hid, this], ?_, HB2.out, ?_⟩
        · have := HO2.out
          simpa [Hid, iV] using this
        · intro k hk
          have : g = k := by simpa [Value.ownBlock] using hk
          have := hg2.out
          omega
      case measure => first | (simp [intOf]; done) | (simp [intOf]; omega)
    · obtain rfl : j = K := by omega
      have hrs' : Hid (refS j (j : Int) = zs) := by have := hrs.out; rw [Nat.sub_self] at this; simpa [refS, Hid] using this
      clear hrs
      rw [Nat.sub_self]
      go_wp2
      go_ret
      have hz := hrs'.out
      refine ⟨_, rfl, ?_, HB.out, hbk.out⟩
      rw [hz, hzl.out]
      exact hown.out

set_option maxHeartbeats 2000000 in
theorem refSpread_up (n most : Int) (K : Nat) (w : World) (h1 : 1 ≤ n) (h2 : n ≤ 2000) (hK1 : 1 ≤ K) (hK2 : K ≤ 2000) (hm : 1 ≤ most) (hk : n / most * most < n) (hk2 : n / most + 1 = (K : Int)) :
    Calls Try.prog 10 #[.int .i64 n, .int .i64 most] w (RetNewI w (refS K n)) := by
  obtain ⟨i0, hi0, hz0, hz1, hz2⟩ := info_parts info3
  have hd0 : 0 ≤ n / most := Int.ediv_nonneg (by omega) (by omega)
  have hd1 : n / most ≤ 2000 := by have := Int.ediv_le_self most (show 0 ≤ n by omega); omega
  have hp0 : 0 ≤ n / most * most := Int.mul_nonneg hd0 (by omega)
  have hp1 : n / most * most ≤ n := Int.ediv_mul_le n (by omega)
  go_enter Try.func10, Try.ntmps10
  go_wp2
  go_loopw [0, 5, 6] (fun x k v wr => ∃ (j : Nat) (y : Int) (zs : List Int), j ≤ K ∧ x = .int .i64 y ∧ k = .int .i64 ((K - j : Nat) : Int) ∧ 0 ≤ y ∧ y ≤ 2000 ∧ Hid (refS K n = zs ++ refS (K - j) y) ∧ Hid (zs.length = j) ∧
      Hid (Own wr 3 1 v j (zs.map iV)) ∧ Below w.heap.size w wr ∧ Hid (∀ g, v.ownBlock = some g → w.heap.size ≤ g)) (fun _ k _ _ => (intOf k).toNat)
  case atStart => exact ⟨0, n, [], by omega, rfl, by first | (simp; done) | (simp; omega), by omega, by omega, by unfold Hid; simp, rfl, Own.nil_ _ _ _, Below.refl _ _, by simp [Hid, Value.ownBlock]⟩
  case round =>
    obtain ⟨j, y, zs, hj, rfl, rfl, hy0, hy1, hrs, hzl, hown, hb, hbk⟩ := hrel
    have HB := Lib.hid hb
    clear hb hk hk2 hd0 hd1 hp0 hp1
    by_cases hlt : j < K
    · obtain ⟨i, hi⟩ : ∃ i, K - j = i + 1 := ⟨K - j - 1, by omega⟩
      have hrs' : Hid (refS K n = (zs ++ [y / ((i + 1 : Nat) : Int)]) ++ refS i (y - y / ((i + 1 : Nat) : Int))) := by
        have := hrs.out
        rw [hi, refS] at this
        show _ = _
        rw [this]; simp
      have hkj : K - (j + 1) = i := by omega
      have HKJ := Lib.hid hkj
      rw [hi]
      have hij : i + j + 1 = K := by omega
      have hq0 : 0 ≤ y / ((i : Int) + 1) := Int.ediv_nonneg (by omega) (by omega)
      have hq1 : y / ((i : Int) + 1) ≤ y := Int.ediv_le_self _ hy0
      have hiz : (((i : Int) + 1) == 0) = false := by rw [beq_eq_false_iff_ne]; omega
      clear hi hkj hrs
      have h63 : j + 1 ≤ maxLen := by simp only [maxLen]; omega
      have H63 := Lib.hid h63
      clear h63
      have hcast : ((i + 1 : Nat) : Int) = (i : Int) + 1 := by omega
      rw [hcast] at hrs' ⊢
      clear hcast
      go_wp2_with (at_builtin; refine wpList_append_mine _ rfl (.tmp 23) (.tmp 27) _ rfl 3 i0 _ 1 8 Try.underlying23 hi0 hz0 hz1 hz2 rfl (by omega) _ j (zs.map iV) rfl (by exact hown.out.alloc _) _ 1 1 [_] rfl rfl (by exact news_push rfl rfl) (by simp [Value.oneCell']) (by omega) H63.out (by omega) _ rfl ?_; intro g o cp w2 hown2 hgrow2 hat2)
      have hb2 : Below w.heap.size w w2 := Below.grown (below_al HB.out _) hgrow2 (by have := HB.out.size; simp; omega) (fun k hk => hbk.out k hk)
      have HB2 := Lib.hid hb2
      have hg2 : Hid (w.heap.size ≤ g) := by
        have := HB.out.size
        rcases hat2 with h | h
        · exact hbk.out g h
        · simp at h; show _ ≤ _; omega
      have HO2 := Lib.hid hown2
      clear hb2 hown2 hgrow2 hat2
      go_wp2
      go_roundw
      case rel =>
        refine ⟨j + 1, _, zs ++ [y / ((i : Int) + 1)], by omega, rfl, by first | (rw [HKJ.out]; done) | (rw [HKJ.out]; go_num), by omega, by omega, by rw [HKJ.out]; exact hrs', by have := hzl.out; simp [Hid, this], ?_, HB2.out, ?_⟩
        · have := HO2.out
          simpa [Hid, iV] using this
        · intro k hk
          have : g = k := by simpa [Value.ownBlock] using hk
          have := hg2.out
          omega
      case measure => first | (simp [intOf]; done) | (simp [intOf]; omega)
    · obtain rfl : j = K := by omega
      have hrs' : Hid (refS j n = zs) := by have := hrs.out; rw [Nat.sub_self] at this; simpa [refS, Hid] using this
      clear hrs
      rw [Nat.sub_self]
      go_wp2
      go_ret
      have hz := hrs'.out
      refine ⟨_, rfl, ?_, HB.out, hbk.out⟩
      rw [hz, hzl.out]
      exact hown.out

set_option maxHeartbeats 2000000 in
theorem refSpread_even (n most : Int) (K : Nat) (w : World) (h1 : 1 ≤ n) (h2 : n ≤ 2000) (hK1 : 1 ≤ K) (hK2 : K ≤ 2000) (hm : 1 ≤ most) (hk : ¬ n / most * most < n) (hk2 : n / most = (K : Int)) :
    Calls Try.prog 10 #[.int .i64 n, .int .i64 most] w (RetNewI w (refS K n)) := by
  have hkd : decide (n / most * most < n) = false := by simpa using hk
  obtain ⟨i0, hi0, hz0, hz1, hz2⟩ := info_parts info3
  have hd0 : 0 ≤ n / most := Int.ediv_nonneg (by omega) (by omega)
  have hd1 : n / most ≤ 2000 := by have := Int.ediv_le_self most (show 0 ≤ n by omega); omega
  have hp0 : 0 ≤ n / most * most := Int.mul_nonneg hd0 (by omega)
  have hp1 : n / most * most ≤ n := Int.ediv_mul_le n (by omega)
  rw [hk2] at hk hp0 hp1 hkd
  go_enter Try.func10, Try.ntmps10
  go_wp2
  go_loopw [0, 5, 6] (fun x k v wr => ∃ (j : Nat) (y : Int) (zs : List Int), j ≤ K ∧ x = .int .i64 y ∧ k = .int .i64 ((K - j : Nat) : Int) ∧ 0 ≤ y ∧ y ≤ 2000 ∧ Hid (refS K n = zs ++ refS (K - j) y) ∧ Hid (zs.length = j) ∧
      Hid (Own wr 3 1 v j (zs.map iV)) ∧ Below w.heap.size w wr ∧ Hid (∀ g, v.ownBlock = some g → w.heap.size ≤ g)) (fun _ k _ _ => (intOf k).toNat)
  case atStart => exact ⟨0, n, [], by omega, rfl, by first | (simp; done) | (simp; omega), by omega, by omega, by unfold Hid; simp, rfl, Own.nil_ _ _ _, Below.refl _ _, by simp [Hid, Value.ownBlock]⟩
  case round =>
    obtain ⟨j, y, zs, hj, rfl, rfl, hy0, hy1, hrs, hzl, hown, hb, hbk⟩ := hrel
    have HB := Lib.hid hb
    clear hb hk hkd hk2 hd0 hd1 hp0 hp1
    by_cases hlt : j < K
    · obtain ⟨i, hi⟩ : ∃ i, K - j = i + 1 := ⟨K - j - 1, by omega⟩
      have hrs' : Hid (refS K n = (zs ++ [y / ((i + 1 : Nat) : Int)]) ++ refS i (y - y / ((i + 1 : Nat) : Int))) := by
        have := hrs.out
        rw [hi, refS] at this
        show _ = _
        rw [this]; simp
      have hkj : K - (j + 1) = i := by omega
      have HKJ := Lib.hid hkj
      rw [hi]
      have hij : i + j + 1 = K := by omega
      have hq0 : 0 ≤ y / ((i : Int) + 1) := Int.ediv_nonneg (by omega) (by omega)
      have hq1 : y / ((i : Int) + 1) ≤ y := Int.ediv_le_self _ hy0
      have hiz : (((i : Int) + 1) == 0) = false := by rw [beq_eq_false_iff_ne]; omega
      clear hi hkj hrs
      have h63 : j + 1 ≤ maxLen := by simp only [maxLen]; omega
      have H63 := Lib.hid h63
      clear h63
      have hcast : ((i + 1 : Nat) : Int) = (i : Int) + 1 := by omega
      rw [hcast] at hrs' ⊢
      clear hcast
      go_wp2_with (at_builtin; refine wpList_append_mine _ rfl (.tmp 23) (.tmp 27) _ rfl 3 i0 _ 1 8 Try.underlying23 hi0 hz0 hz1 hz2 rfl (by omega) _ j (zs.map iV) rfl (by exact hown.out.alloc _) _ 1 1 [_] rfl rfl (by exact news_push rfl rfl) (by simp [Value.oneCell']) (by omega) H63.out (by omega) _ rfl ?_; intro g o cp w2 hown2 hgrow2 hat2)
      have hb2 : Below w.heap.size w w2 := Below.grown (below_al HB.out _) hgrow2 (by have := HB.out.size; simp; omega) (fun k hk => hbk.out k hk)
      have HB2 := Lib.hid hb2
      have hg2 : Hid (w.heap.size ≤ g) := by
        have := HB.out.size
        rcases hat2 with h | h
        · exact hbk.out g h
        · simp at h; show _ ≤ _; omega
      have HO2 := Lib.hid hown2
      clear hb2 hown2 hgrow2 hat2
      go_wp2
      go_roundw
      case rel =>
        refine ⟨j + 1, _, zs ++ [y / ((i : Int) + 1)], by omega, rfl, by first | (rw [HKJ.out]; done) | (rw [HKJ.out]; go_num), by omega, by omega, by rw [HKJ.out]; exact hrs', by have := hzl.out; simp [Hid, this], ?_, HB2.out, ?_⟩
        · have := HO2.out
          simpa [Hid, iV] using this
        · intro k hk
          have : g = k := by simpa [Value.ownBlock] using hk
          have := hg2.out
          omega
      case measure => first | (simp [intOf]; done) | (simp [intOf]; omega)
    · obtain rfl : j = K := by omega
      have hrs' : Hid (refS j n = zs) := by have := hrs.out; rw [Nat.sub_self] at this; simpa [refS, Hid] using this
      clear hrs
      rw [Nat.sub_self]
      go_wp2
      go_ret
      have hz := hrs'.out
      refine ⟨_, rfl, ?_, HB.out, hbk.out⟩
      rw [hz, hzl.out]
      exact hown.out


theorem ceil_eq (n m : Int) (hn : 1 ≤ n) (hm : 1 ≤ m) : (n / m * m < n → n / m + 1 = (n - 1) / m + 1) ∧ (¬ n / m * m < n → n / m = (n - 1) / m + 1) := by
  have h1 : n / m * m + n % m = n := Int.ediv_mul_add_emod n m
  have h2 : 0 ≤ n % m := Int.emod_nonneg _ (by omega)
  have h3 : n % m < m := Int.emod_lt_of_pos _ (by omega)
  constructor
  · intro h
    have : (n - 1) / m = n / m := by
      have e : n - 1 = (n % m - 1) + n / m * m := by omega
      rw [e, Int.add_mul_ediv_right _ _ (by omega), Int.ediv_eq_zero_of_lt (by omega) (by omega)]
      omega
    rw [this]
  · intro h
    have : (n - 1) / m = n / m - 1 := by
      have e : n - 1 = (m - 1) + (n / m - 1) * m := by
        rw [Int.sub_mul, Int.one_mul]; omega
      rw [e, Int.add_mul_ediv_right _ _ (by omega), Int.ediv_eq_zero_of_lt (by omega) (by omega)]
      omega
    rw [this]
    omega

theorem parts_bd (n most : Int) (h1 : 1 ≤ n) (h2 : n ≤ 2000) : 1 ≤ partsK n most ∧ partsK n most ≤ 2000 := by
  unfold partsK
  have h0 : 0 ≤ (n - 1) / max most 1 := Int.ediv_nonneg (by omega) (by omega)
  have h3 := Int.ediv_le_self (max most 1) (show 0 ≤ n - 1 by omega)
  omega

set_option maxHeartbeats 400000 in
theorem codeSpread_none (n most : Int) (w : World) (h : n < 1) : Calls Try.prog 8 #[.int .i64 n, .int .i64 most] w (RetNewI w []) := by
  go_enter Try.func8, Try.ntmps8
  go_wp2
  go_ret
  exact ⟨_, rfl, Own.nil_ _ _ _, Below.refl _ _, by simp [Value.ownBlock]⟩
set_option maxHeartbeats 400000 in
theorem refSpread_none (n most : Int) (w : World) (h : n < 1) : Calls Try.prog 10 #[.int .i64 n, .int .i64 most] w (RetNewI w []) := by
  go_enter Try.func10, Try.ntmps10
  go_wp2
  go_ret
  exact ⟨_, rfl, Own.nil_ _ _ _, Below.refl _ _, by simp [Value.ownBlock]⟩

theorem codeSpread_any (n most : Int) (w : World) (h2 : n ≤ 2000) : Calls Try.prog 8 #[.int .i64 n, .int .i64 most] w (RetNewI w (spreadP n most)) := by
  unfold spreadP
  by_cases h : n < 1
  · rw [if_pos h]; exact codeSpread_none n most w h
  · rw [if_neg h]
    have hb := parts_bd n most (by omega) h2
    obtain ⟨K, hK⟩ := Int.eq_ofNat_of_zero_le (show 0 ≤ partsK n most by omega)
    rw [hK] at hb ⊢
    unfold partsK at hK
    by_cases hm : most < 1
    · rw [show max most 1 = 1 by omega, Int.ediv_one] at hK
      exact spread_lo n most K w (by omega) h2 hm (by omega) (by omega) (by omega)
    · rw [show max most 1 = most by omega] at hK
      exact spread_hi n most K w (by omega) h2 (by omega) hK (by omega) (by omega)
theorem refSpread_any (n most : Int) (w : World) (h2 : n ≤ 2000) : Calls Try.prog 10 #[.int .i64 n, .int .i64 most] w (RetNewI w (spreadP n most)) := by
  unfold spreadP
  by_cases h : n < 1
  · rw [if_pos h]; exact refSpread_none n most w h
  · rw [if_neg h]
    have hb := parts_bd n most (by omega) h2
    obtain ⟨K, hK⟩ := Int.eq_ofNat_of_zero_le (show 0 ≤ partsK n most by omega)
    rw [hK] at hb ⊢
    rw [← refS_eq K n (by omega)]
    unfold partsK at hK
    by_cases hm : most < 1
    · rw [show max most 1 = 1 by omega, Int.ediv_one] at hK
      obtain rfl : n = (K : Int) := by omega
      exact refSpread_one most K w (by omega) (by omega) hm
    · rw [show max most 1 = most by omega] at hK
      have hc := ceil_eq n most (by omega) (by omega)
      by_cases hlt : n / most * most < n
      · exact refSpread_up n most K w (by omega) h2 (by omega) (by omega) (by omega) hlt (by rw [hc.1 hlt]; exact hK)
      · exact refSpread_even n most K w (by omega) h2 (by omega) (by omega) (by omega) hlt (by rw [hc.2 hlt]; exact hK)
end Go.Proofs.Ytkppgofiojddoaa
