/-
  The contract of reedbedref02's function Units; no condition beyond those that each theorem states.
-/
import Derived.Test.YtoagjhhdijebmaaOrd2
import Derived.Deep.RegionLaw
namespace Go.Proofs.Ytoagjhhdijebmaa
open Go.RowKit Go.Rb
attribute [local irreducible] Go.wpQuiet

theorem idx_bs (bs : List UInt8) (n : Nat) (hn : bs.length = n) (j : Nat) (hj : j < n) (w : World) : (Instr.index 9 (.string ⟨bs.toArray⟩) (.int .i64 (j : Int))).run Try.prog w = .ok (.int .u8 ((bs.getD j 0).toNat : Int)) w := by
  have hj' : j < bs.length := by omega
  have hs : j < (⟨bs.toArray⟩ : ByteArray).size := by simpa [ByteArray.size] using hj'
  have e : (⟨bs.toArray⟩ : ByteArray)[j]'hs = bs.getD j 0 := by rw [getD_at hj']; rfl
  rw [← e]
  go_simp
theorem unAt2 (bs : List UInt8) (j : Nat) : unAt 2 bs j = ((bs.getD (2 * j) 0).toNat : Int) + 256 * ((bs.getD (2 * j + 1) 0).toNat : Int) := by
  unfold unAt
  rw [if_pos rfl]
theorem unAt3 (bs : List UInt8) (j : Nat) : unAt 3 bs j = ((bs.getD (2 * j + 1) 0).toNat : Int) + 256 * ((bs.getD (2 * j) 0).toNat : Int) := by
  unfold unAt
  rw [if_neg (by decide)]

set_option maxHeartbeats 4000000 in
theorem rUnits_2 (bs : List UInt8) (w : World) (hn : bs.length ≤ 1000000) :
    Calls Try.prog 20 #[.int .i64 2, .string ⟨bs.toArray⟩] w (RetNewI w (unitsB 2 bs)) := by
  obtain ⟨i0, hi0, hz0, hz1, hz2⟩ := info_parts info3
  have hsz : (⟨bs.toArray⟩ : ByteArray).size = bs.length := by simp [ByteArray.size]
  obtain ⟨n, hnn⟩ : ∃ n, bs.length = n := ⟨_, rfl⟩
  have HIX := Lib.hid (idx_bs bs n hnn)
  rw [hnn] at hsz hn
  have HL := Lib.hid hnn
  clear hnn
  generalize (⟨bs.toArray⟩ : ByteArray) = s at *
  go_enter Try.func20, Try.ntmps20
  go_wp2_with fail
  go_loopw [5, 6] (fun v iv wr => ∃ j : Nat, 2 * j ≤ n + 1 ∧ 2 * j ≤ n ∧ iv = .int .i64 (2 * (j : Int)) ∧ Own wr 3 1 v j ((unK 2 bs j).map iV) ∧ Hid (∀ k, v.ownBlock = some k → w.heap.size ≤ k) ∧ Below w.heap.size w wr) (fun _ iv _ => n - (intOf iv).toNat)
  case atStart => exact ⟨0, by omega, by omega, rfl, Own.nil_ _ _ _, by simp [Hid, Value.ownBlock], Below.refl _ _⟩
  case round =>
    obtain ⟨j, hj, hj2, rfl, hv, hkv, hbw⟩ := hrel
    obtain ⟨Av, cv, rfl, -, -⟩ := hv.len_
    have HB := Lib.hid hbw
    have HV := Lib.hid hv
    clear hv
    by_cases hlt : 2 * j + 2 ≤ n
    · have i1 : 2 * (j : Int) + 2 ≤ (n : Int) := by omega
      have x1 := HIX.out (2 * j) (by omega)
      have y1 := HIX.out (2 * j + 1) (by omega)
      rw [show ((2 * j : Nat) : Int) = 2 * (j : Int) from by omega] at x1
      rw [show ((2 * j + 1 : Nat) : Int) = 2 * (j : Int) + 1 from by omega] at y1
      have hxu := (bs.getD (2 * j) 0).toNat_lt
      have hyu := (bs.getD (2 * j + 1) 0).toNat_lt
      have HN2 : Hid ((unK 2 bs (j + 1)).map iV = (unK 2 bs j).map iV ++ [.int .i64 (unAt 2 bs j)]) := (by rw [unK_succ, List.map_append]; rfl : (unK 2 bs (j + 1)).map iV = (unK 2 bs j).map iV ++ [.int .i64 (unAt 2 bs j)])
      have hun := unAt2 bs j
      rw [hun] at HN2
      generalize (bs.getD (2 * j) 0).toNat = x at *
      generalize (bs.getD (2 * j + 1) 0).toNat = y at *
      clear hbw hun
      have hw1 : IntKind.i64.wrap (2 * (j : Int) + 1) = 2 * (j : Int) + 1 := by rw [IntKind.wrap_i64]; omega
      have hwx : IntKind.i64.wrap (x : Int) = (x : Int) := by rw [IntKind.wrap_i64]; omega
      have hwy : IntKind.i64.wrap (y : Int) = (y : Int) := by rw [IntKind.wrap_i64]; omega
      have hw2 : IntKind.i64.wrap (256 * (y : Int)) = 256 * (y : Int) := by rw [IntKind.wrap_i64]; omega
      have hw3 : IntKind.i64.wrap ((x : Int) + 256 * (y : Int)) = (x : Int) + 256 * (y : Int) := by rw [IntKind.wrap_i64]; omega
      generalize (unK 2 bs j).map iV = xs at *
      have HBD : Hid (Below w.heap.size w wr.drew) := below_drewN HB.out 1
      have HVD : Hid (Own wr.drew 3 1 (.slice Av j cv) j xs) := HV.out.drew
      go_wp2_with fail
      go_region_law (refine step_append_mine _ rfl (.tmp 16) (.tmp 28) _ rfl 3 i0 _ 1 8 Try.underlying37 hi0 hz0 hz1 hz2 rfl (by omega) (.slice Av j cv) j xs rfl (by exact HVD.out.alloc _) _ 1 1 [_] rfl rfl (by exact news_push rfl rfl) (by simp [Value.oneCell']) (by omega) (by simp only [maxLen]; omega) (by omega) _ rfl ?_; intro g6 o6 c6 w6 hown6 hgrow6 hat6; have HO6 := Lib.hid hown6; have HB6 := Lib.hid (Below.grown (HBD.out.alloc HBD.out.size _) hgrow6 (by simp; have := HB.out.size; omega) hkv.out); have HK6 : Hid (w.heap.size ≤ g6) := (by show _ ≤ _; rcases hat6 with h | h; exact hkv.out _ h; rw [h]; have := HB.out.size; simp; omega); clear hown6 hgrow6 hat6)
      all_goals (
        clear hw1 hw2 hw3 hwx hwy
        go_wp2_with fail
        go_roundw
        case rel => exact ⟨j + 1, by omega, by omega, by go_num, by rw [HN2.out]; exact HO6.out, fun k hk => by simp [Value.ownBlock] at hk; rw [← hk]; exact HK6.out, HB6.out⟩
        case measure => simp [intOf]; omega)
    · have i1 : ¬ 2 * (j : Int) + 2 ≤ (n : Int) := by omega
      have e : j = bs.length / 2 := by rw [HL.out]; omega
      have HF : Hid (Own wr 3 1 (.slice Av j cv) (unitsB 2 bs).length ((unitsB 2 bs).map iV)) := by
        have := HV.out
        have e2 : unitsB 2 bs = unK 2 bs j := by rw [e]; rfl
        rw [e2, unK_len]
        exact this
      clear e hbw
      go_wp2_with fail
      go_ret
      exact ⟨_, rfl, HF.out, HB.out, hkv.out⟩

set_option maxHeartbeats 4000000 in
theorem rUnits_3 (bs : List UInt8) (w : World) (hn : bs.length ≤ 1000000) :
    Calls Try.prog 20 #[.int .i64 3, .string ⟨bs.toArray⟩] w (RetNewI w (unitsB 3 bs)) := by
  obtain ⟨i0, hi0, hz0, hz1, hz2⟩ := info_parts info3
  have hsz : (⟨bs.toArray⟩ : ByteArray).size = bs.length := by simp [ByteArray.size]
  obtain ⟨n, hnn⟩ : ∃ n, bs.length = n := ⟨_, rfl⟩
  have HIX := Lib.hid (idx_bs bs n hnn)
  rw [hnn] at hsz hn
  have HL := Lib.hid hnn
  clear hnn
  generalize (⟨bs.toArray⟩ : ByteArray) = s at *
  go_enter Try.func20, Try.ntmps20
  go_wp2_with fail
  go_loopw [5, 6] (fun v iv wr => ∃ j : Nat, 2 * j ≤ n + 1 ∧ 2 * j ≤ n ∧ iv = .int .i64 (2 * (j : Int)) ∧ Own wr 3 1 v j ((unK 3 bs j).map iV) ∧ Hid (∀ k, v.ownBlock = some k → w.heap.size ≤ k) ∧ Below w.heap.size w wr) (fun _ iv _ => n - (intOf iv).toNat)
  case atStart => exact ⟨0, by omega, by omega, rfl, Own.nil_ _ _ _, by simp [Hid, Value.ownBlock], Below.refl _ _⟩
  case round =>
    obtain ⟨j, hj, hj2, rfl, hv, hkv, hbw⟩ := hrel
    obtain ⟨Av, cv, rfl, -, -⟩ := hv.len_
    have HB := Lib.hid hbw
    have HV := Lib.hid hv
    clear hv
    by_cases hlt : 2 * j + 2 ≤ n
    · have i1 : 2 * (j : Int) + 2 ≤ (n : Int) := by omega
      have x1 := HIX.out (2 * j) (by omega)
      have y1 := HIX.out (2 * j + 1) (by omega)
      rw [show ((2 * j : Nat) : Int) = 2 * (j : Int) from by omega] at x1
      rw [show ((2 * j + 1 : Nat) : Int) = 2 * (j : Int) + 1 from by omega] at y1
      have hxu := (bs.getD (2 * j) 0).toNat_lt
      have hyu := (bs.getD (2 * j + 1) 0).toNat_lt
      have HN2 : Hid ((unK 3 bs (j + 1)).map iV = (unK 3 bs j).map iV ++ [.int .i64 (unAt 3 bs j)]) := (by rw [unK_succ, List.map_append]; rfl : (unK 3 bs (j + 1)).map iV = (unK 3 bs j).map iV ++ [.int .i64 (unAt 3 bs j)])
      have hun := unAt3 bs j
      rw [hun] at HN2
      generalize (bs.getD (2 * j) 0).toNat = x at *
      generalize (bs.getD (2 * j + 1) 0).toNat = y at *
      clear hbw hun
      have hw1 : IntKind.i64.wrap (2 * (j : Int) + 1) = 2 * (j : Int) + 1 := by rw [IntKind.wrap_i64]; omega
      have hwx : IntKind.i64.wrap (x : Int) = (x : Int) := by rw [IntKind.wrap_i64]; omega
      have hwy : IntKind.i64.wrap (y : Int) = (y : Int) := by rw [IntKind.wrap_i64]; omega
      have hw2 : IntKind.i64.wrap (256 * (x : Int)) = 256 * (x : Int) := by rw [IntKind.wrap_i64]; omega
      have hw3 : IntKind.i64.wrap ((y : Int) + 256 * (x : Int)) = (y : Int) + 256 * (x : Int) := by rw [IntKind.wrap_i64]; omega
      generalize (unK 3 bs j).map iV = xs at *
      have HBD : Hid (Below w.heap.size w wr.drew) := below_drewN HB.out 1
      have HVD : Hid (Own wr.drew 3 1 (.slice Av j cv) j xs) := HV.out.drew
      go_wp2_with fail
      go_region_law (refine step_append_mine _ rfl (.tmp 32) (.tmp 44) _ rfl 3 i0 _ 1 8 Try.underlying37 hi0 hz0 hz1 hz2 rfl (by omega) (.slice Av j cv) j xs rfl (by exact HVD.out.alloc _) _ 1 1 [_] rfl rfl (by exact news_push rfl rfl) (by simp [Value.oneCell']) (by omega) (by simp only [maxLen]; omega) (by omega) _ rfl ?_; intro g6 o6 c6 w6 hown6 hgrow6 hat6; have HO6 := Lib.hid hown6; have HB6 := Lib.hid (Below.grown (HBD.out.alloc HBD.out.size _) hgrow6 (by simp; have := HB.out.size; omega) hkv.out); have HK6 : Hid (w.heap.size ≤ g6) := (by show _ ≤ _; rcases hat6 with h | h; exact hkv.out _ h; rw [h]; have := HB.out.size; simp; omega); clear hown6 hgrow6 hat6)
      all_goals (
        clear hw1 hw2 hw3 hwx hwy
        go_wp2_with fail
        go_roundw
        case rel => exact ⟨j + 1, by omega, by omega, by go_num, by rw [HN2.out]; exact HO6.out, fun k hk => by simp [Value.ownBlock] at hk; rw [← hk]; exact HK6.out, HB6.out⟩
        case measure => simp [intOf]; omega)
    · have i1 : ¬ 2 * (j : Int) + 2 ≤ (n : Int) := by omega
      have e : j = bs.length / 2 := by rw [HL.out]; omega
      have HF : Hid (Own wr 3 1 (.slice Av j cv) (unitsB 3 bs).length ((unitsB 3 bs).map iV)) := by
        have := HV.out
        have e2 : unitsB 3 bs = unK 3 bs j := by rw [e]; rfl
        rw [e2, unK_len]
        exact this
      clear e hbw
      go_wp2_with fail
      go_ret
      exact ⟨_, rfl, HF.out, HB.out, hkv.out⟩

set_option maxHeartbeats 4000000 in
theorem rUnits_no (k : Int) (h2 : ¬ k = 2) (h3 : ¬ k = 3) (s : ByteArray) (w : World) (hn : s.size ≤ 1000000) :
    Calls Try.prog 20 #[.int .i64 k, .string s] w (RetNewI w []) := by
  have i2 : (k == 2) = false := by rw [beq_eq_false_iff_ne]; exact h2
  have i3 : (k == 3) = false := by rw [beq_eq_false_iff_ne]; exact h3
  obtain ⟨n, hnn⟩ : ∃ n, s.size = n := ⟨_, rfl⟩
  rw [hnn] at hn
  go_enter Try.func20, Try.ntmps20
  go_wp2_with fail
  go_loopw [5, 6] (fun v iv wr => ∃ j : Nat, 2 * j ≤ n ∧ iv = .int .i64 (2 * (j : Int)) ∧ v = .slice none 0 0 ∧ wr = w) (fun _ iv _ => n - (intOf iv).toNat)
  case atStart => exact ⟨0, by omega, rfl, by simp⟩
  case round =>
    obtain ⟨j, hj, rfl, rfl, rfl⟩ := hrel
    by_cases hlt : 2 * j + 2 ≤ n
    · have i1 : 2 * (j : Int) + 2 ≤ (n : Int) := by omega
      go_wp2_with fail
      go_roundw
      case rel => exact ⟨j + 1, by omega, by go_num, by simp⟩
      case measure => simp [intOf]; omega
    · have i1 : ¬ 2 * (j : Int) + 2 ≤ (n : Int) := by omega
      go_wp2_with fail
      go_ret
      exact ⟨_, rfl, Own.nil_ _ _ _, Below.refl _ _, by simp [Value.ownBlock]⟩
theorem rUnits_any (k : Int) (bs : List UInt8) (w : World) (hn : bs.length ≤ 1000000) :
    Calls Try.prog 20 #[.int .i64 k, .string ⟨bs.toArray⟩] w (RetNewI w (unitsB k bs)) := by
  by_cases h2 : k = 2
  · subst h2; exact rUnits_2 bs w hn
  by_cases h3 : k = 3
  · subst h3; exact rUnits_3 bs w hn
  have ht : twoP k = false := by unfold twoP; simp [h2, h3]
  rw [show unitsB k bs = [] from by unfold unitsB; rw [ht]; rfl]
  exact rUnits_no k h2 h3 _ w (by simpa [ByteArray.size] using hn)
end Go.Proofs.Ytoagjhhdijebmaa
