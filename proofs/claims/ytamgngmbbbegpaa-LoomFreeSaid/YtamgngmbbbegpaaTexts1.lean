/-
  The contract of reedbedref05.Texts on two lists that are the same; no condition beyond those that each theorem states.
-/
import Derived.Test.YtamgngmbbbegpaaLoom11
namespace Go.Proofs.Ytamgngmbbbegpaa
open Go.RowKit Go.Rb
attribute [local irreducible] Go.wpQuiet

def tV (s : ByteArray) : Value := .string s
set_option maxHeartbeats 1000000 in
theorem texts_same (A B : Option Addr) (n cA cB : Nat) (xs : List ByteArray) (w : World) (b1 b2 : Nat) (hx : Rd w b1 1 A n (xs.map tV)) (hy : Rd w b2 1 B n (xs.map tV)) (hn : n ≤ 1000000) :
    Calls Try.prog 22 #[.slice A n cA, .slice B n cB] w fun e w' => e = .returned (.bool true) ∧ ∃ q, w' = w.drewN q := by
  have hxl : xs.length = n := by simpa using hx.1
  go_enter Try.func22, Try.ntmps22
  go_wp2
  go_loopw [5] (fun i wr => ∃ k : Nat, k ≤ n ∧ i = .int .i64 k ∧ ∃ q, wr = w.drewN q) (fun i _ => n - (intOf i).toNat)
  case atStart => exact ⟨0, by omega, rfl, 0, rfl⟩
  case round =>
    obtain ⟨k, hk, rfl, q, rfl⟩ := hrel
    by_cases hlt : k < n
    · obtain ⟨bx, ox, rfl, hbx, hcx⟩ := hx.2 (by omega)
      obtain ⟨b_y, o_y, rfl, hby, hcy⟩ := hy.2 (by omega)
      have h1 := hcx k (by omega)
      have h2 := hcy k (by omega)
      rw [List.getElem?_map, List.getElem?_eq_getElem (by omega)] at h1 h2
      simp only [Option.map_some, tV] at h1 h2
      generalize xs[k]'(by omega) = x at *
      have i1 : (k : Int) < (n : Int) := by omega
      have i2 : (0 : Int) ≤ (k : Int) := by omega
      clear hcx hcy
      go_wp2_with fail
      go_quiet (fail)
      go_wp2
      go_roundw
      case rel => exact ⟨k + 1, by omega, by go_num, q + nq, by simp⟩
      case measure => simp [intOf]; omega
    · go_wp2
      go_ret
      exact ⟨rfl, _, rfl⟩

end Go.Proofs.Ytamgngmbbbegpaa
