/-
  The contract of the document's Same of what is the same; no condition beyond those that each theorem states.
-/
import Derived.Test.YthgjfdjjnkgicaaRef7
namespace Go.Proofs.Ythgjfdjjnkgicaa
open Go.RowKit Go.Rb
attribute [local irreducible] Go.wpQuiet

set_option maxHeartbeats 2000000 in
theorem same_any (A A2 : Option Addr) (n c c2 B B2 : Nat) (l : List Rc) (w : World) (hl : l.length = n) (hr : Rd w B 3 A n (rcs l)) (hr2 : Rd w B2 3 A2 n (rcs l)) (hn : n ≤ 1000000) :
    Calls Try.prog 10 #[.slice A n c, .slice A2 n c2] w fun e w' => e = .returned (.bool true) ∧ ∃ q, w' = w.drewN q := by
  have HR := Lib.hid hr
  have HR2 := Lib.hid hr2
  have HL := Lib.hid hl
  clear hr hr2 hl
  go_enter Try.func10, Try.ntmps10
  go_wp2_with fail
  go_loopw [5] (fun iv wr => ∃ i q : Nat, i ≤ n ∧ iv = .int .i64 i ∧ wr = w.drewN q) (fun iv _ => n - (intOf iv).toNat)
  case atStart => exact ⟨0, 0, by omega, rfl, rfl⟩
  case round =>
    obtain ⟨i, q, hi, rfl, rfl⟩ := hrel
    by_cases hlt : i < n
    · have i1 : (i : Int) < (n : Int) := by omega
      have i2 : (0 : Int) ≤ (i : Int) := by omega
      obtain ⟨pa, po, rfl, -, hcell⟩ := HR.out.2 (by omega)
      obtain ⟨pa2, po2, rfl, -, hcell2⟩ := HR2.out.2 (by omega)
      have hi2 : i < l.length := by rw [HL.out]; exact hlt
      have g0 := rcs_get l i 0 hi2 (by decide)
      have g1 := rcs_get l i 1 hi2 (by decide)
      have g2 := rcs_get l i 2 hi2 (by decide)
      have x0 := hcell (i * 3 + 0) (by omega)
      have x1 := hcell (i * 3 + 1) (by omega)
      have x2 := hcell (i * 3 + 2) (by omega)
      have y0 := hcell2 (i * 3 + 0) (by omega)
      have y1 := hcell2 (i * 3 + 1) (by omega)
      have y2 := hcell2 (i * 3 + 2) (by omega)
      rw [g0] at x0 y0
      rw [g1, ← Nat.add_assoc] at x1 y1
      rw [g2, ← Nat.add_assoc] at x2 y2
      simp only [Nat.add_zero] at x0 y0
      generalize l[i] = p at *
      obtain ⟨p1, p2, p3⟩ := p
      simp only [rc, nV, List.getElem?_cons_zero, List.getElem?_cons_succ] at x0 x1 x2 y0 y1 y2
      generalize mk p3 = b at *
      clear hcell hcell2 g0 g1 g2
      go_wp2_with fail
      go_quiet (fail)
      go_wp2_with fail
      go_roundw
      case rel => exact ⟨i + 1, q + nq, by omega, by go_num, by simp⟩
      case measure => simp [intOf]; omega
    · have i1 : ¬ (i : Int) < (n : Int) := by omega
      go_wp2_with fail
      go_ret
      exact ⟨rfl, _, rfl⟩
end Go.Proofs.Ythgjfdjjnkgicaa
