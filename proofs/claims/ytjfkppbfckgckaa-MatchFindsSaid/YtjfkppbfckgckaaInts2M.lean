/-
  The contract of reedbedref01.Ints; no condition beyond those that each theorem states.
-/
import Derived.Test.YtjfkppbfckgckaaG01
set_option linter.unusedVariables false
set_option linter.unusedSimpArgs false
namespace Go.Proofs.Ytjfkppbfckgckaa
open Go.RowKit Go.Rb

theorem ints_at {xs ys : List Int} (k : Nat) (hk : k < xs.length) (hl : xs.length = ys.length) (hp : xs.take k = ys.take k) :
    (xs[k] = ys[k]'(by omega) → xs.take (k + 1) = ys.take (k + 1)) ∧ (xs[k] ≠ ys[k]'(by omega) → xs ≠ ys) := by
  constructor
  · intro h
    rw [List.take_succ_eq_append_getElem hk, List.take_succ_eq_append_getElem (by omega), hp, h]
  · rintro h rfl
    exact h rfl

set_option maxHeartbeats 1000000 in
theorem ints_any (A B : Option Addr) (n m cA cB : Nat) (xs ys : List Int) (w : World) (b1 b2 : Nat) (hx : Rd w b1 1 A n (xs.map iV)) (hy : Rd w b2 1 B m (ys.map iV)) (hn : n ≤ 1000000) (hm : m ≤ 1000000) :
    Calls Try.prog 16 #[.slice A n cA, .slice B m cB] w fun e w' => e = .returned (.bool (decide (xs = ys))) ∧ ∃ q, w' = w.drewN q := by
  have hxl : xs.length = n := by simpa using hx.1
  have hyl : ys.length = m := by simpa using hy.1
  by_cases hnm : n = m
  · subst hnm
    go_enter Try.func16, Try.ntmps16
    go_wp2
    go_loopw [5] (fun i wr => ∃ k : Nat, k ≤ n ∧ i = .int .i64 k ∧ Hid (xs.take k = ys.take k) ∧ ∃ q, wr = w.drewN q) (fun i _ => n - (intOf i).toNat)
    case atStart => exact ⟨0, by omega, rfl, rfl, 0, rfl⟩
    case round =>
      obtain ⟨k, hk, rfl, hp, q, rfl⟩ := hrel
      by_cases hlt : k < n
      · obtain ⟨bx, ox, rfl, hbx, hcx⟩ := hx.2 (by omega)
        obtain ⟨b_y, o_y, rfl, hby, hcy⟩ := hy.2 (by omega)
        have h1 := hcx k (by omega)
        have h2 := hcy k (by omega)
        have ht := ints_at k (by omega) (by omega) hp.out
        rw [List.getElem?_map, List.getElem?_eq_getElem (by omega)] at h1 h2
        simp only [Option.map_some, iV] at h1 h2
        generalize xs[k]'(by omega) = x at *
        generalize ys[k]'(by omega) = y at *
        have i1 : (k : Int) < (n : Int) := by omega
        have i2 : (0 : Int) ≤ (k : Int) := by omega
        clear hcx hcy
        by_cases hxy : x = y
        · have HT := Lib.hid (ht.1 hxy)
          subst hxy
          clear ht
          go_wp2_with fail
          go_quiet (fail)
          go_wp2
          go_roundw
          case rel => exact ⟨k + 1, by omega, by go_num, HT.out, q + nq, by simp⟩
          case measure => simp [intOf]; omega
        · have HT := Lib.hid (ht.2 hxy)
          have hb : (x != y) = true := by simpa using hxy
          clear ht
          go_wp2_with fail
          go_quiet (fail)
          go_wp2
          go_ret
          exact ⟨by rw [decide_eq_false HT.out]; rfl, q + nq, by simp⟩
      · have HT : Hid (xs = ys) := by
          have := hp.out
          rwa [List.take_of_length_le (by omega), List.take_of_length_le (by omega)] at this
        go_wp2
        go_ret
        exact ⟨by rw [decide_eq_true HT.out]; rfl, _, rfl⟩
  · have HT : Hid (xs ≠ ys) := by rintro rfl; omega
    have hb : ((n : Int) != (m : Int)) = true := by simp; omega
    go_enter Try.func16, Try.ntmps16
    go_wp2
    go_ret
    exact ⟨by rw [decide_eq_false HT.out]; rfl, 0, rfl⟩
theorem run_at (A1 A2 : Option Addr) (n1 c1 n2 c2 : Nat) (W : World) : (Instr.field 41 (.agg #[.slice A1 n1 c1, .slice A2 n2 c2]) 1).run Try.prog W = .ok (.slice A2 n2 c2) W := by
  unfold Instr.field
  go_simp
  rfl
end Go.Proofs.Ytjfkppbfckgckaa
