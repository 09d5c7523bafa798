/-
  The contracts of reedbedref11.Same and reedbedref14.Same of what is the same; no condition beyond those that each theorem states.
-/
import Derived.Test.YtfndppjicneliaaRef14c
namespace Go.Proofs.Ytfndppjicneliaa
open Go.RowKit Go.Rb
attribute [local irreducible] Go.wpQuiet

def hcs (l : List (Int × Int)) : List Value := l.flatMap fun h => [.int .i64 h.1, .int .i64 h.2]
theorem hcs_get : ∀ (l : List (Int × Int)) (i : Nat) (h : i < l.length), (hcs l)[i * 2]? = some (.int .i64 l[i].1) ∧ (hcs l)[i * 2 + 1]? = some (.int .i64 l[i].2)
  | [], i, h => absurd h (by simp)
  | x :: l, 0, _ => ⟨rfl, rfl⟩
  | x :: l, i + 1, h => by
    obtain ⟨h1, h2⟩ := hcs_get l i (by simpa using h)
    have e : (i + 1) * 2 = i * 2 + 1 + 1 := by omega
    rw [e]
    exact ⟨h1, h2⟩
/-- An item whose hits can be read. -/
def hOK (w : World) (B : Nat) (x : It) : Prop := x.hn ≤ 10 ∧ ∃ hs : List (Int × Int), hs.length = x.hn ∧ Rd w B 2 x.ha x.hn (hcs hs)
theorem hOK.below {w w' : World} {B : Nat} {x : It} (h : hOK w B x) (hb : Below B w w') : hOK w' B x := by
  obtain ⟨h1, hs, h2, h3⟩ := h
  exact ⟨h1, hs, h2, h3.below hb⟩
theorem hOK0 (w : World) (B : Nat) : hOK w B It0 := ⟨by simp [It0], [], rfl, ⟨rfl, fun h => absurd h (by simp [It0])⟩⟩
set_option maxHeartbeats 2000000 in
theorem same11_any (A : Option Addr) (n c B : Nat) (hs : List (Int × Int)) (w : World) (hl : hs.length = n) (hr : Rd w B 2 A n (hcs hs)) (hn : n ≤ 1000000) :
    Calls Try.prog 28 #[.slice A n c, .slice A n c] w fun e w' => e = .returned (.bool true) ∧ ∃ q, w' = w.drewN q := by
  have HR := Lib.hid hr
  have HL := Lib.hid hl
  clear hr hl
  go_enter Try.func28, Try.ntmps28
  go_wp2_with fail
  go_loopw [5] (fun iv wr => ∃ i q : Nat, i ≤ n ∧ iv = .int .i64 i ∧ wr = w.drewN q) (fun iv _ => n - (intOf iv).toNat)
  case atStart => exact ⟨0, 0, by omega, rfl, rfl⟩
  case round =>
    obtain ⟨i, q, hi, rfl, rfl⟩ := hrel
    by_cases hlt : i < n
    · have i1 : (i : Int) < (n : Int) := by omega
      have i2 : (0 : Int) ≤ (i : Int) := by omega
      obtain ⟨pa, po, rfl, -, hcell⟩ := HR.out.2 (by omega)
      obtain ⟨h1, h2⟩ := hcs_get hs i (by rw [HL.out]; exact hlt)
      have x1 := hcell (i * 2) (by omega)
      have x2 := hcell (i * 2 + 1) (by omega)
      rw [h1] at x1
      rw [h2, ← Nat.add_assoc] at x2
      generalize (hs[i]'(by rw [HL.out]; exact hlt)) = p at *
      obtain ⟨p1, p2⟩ := p
      simp only at x1 x2
      clear hcell h1 h2
      go_wp2_with fail
      go_quiet (fail)
      go_wp2_with fail
      go_roundw
      case rel => exact ⟨i + 1, q + nq, by omega, by go_num, by simp⟩
      case measure => simp [intOf]; omega
    · have i1 : ¬ (i : Int) < (n : Int) := by omega
      go_wp2_with fail
      go_ret
      exact ⟨rfl, _, rfl⟩
set_option maxHeartbeats 2000000 in
theorem same14_any (x : It) (B : Nat) (w : World) (h : hOK w B x) (hB : B ≤ w.heap.size) :
    Calls Try.prog 20 #[x.v, x.v] w fun e w' => e = .returned (.bool true) ∧ Below w.heap.size w w' := by
  obtain ⟨h1, hs, h2, h3⟩ := h
  obtain ⟨xn, xb, xrn, xra, xrt, xha, xhn, xhc, xe⟩ := x
  simp only at h1 h2 h3
  have hb : ∀ o1 o2, Below w.heap.size w ((w.alloc o1).alloc o2) := fun o1 o2 => below_al (below_al (Below.refl _ _) _) _
  have HS := Lib.hid (fun W (hW : Below w.heap.size w W) => same11_any xha xhn xhc B hs W h2 (h3.below (hW.mono hB)) (by omega))
  have HB := Lib.hid hb
  clear h2 h3 hb
  unfold It.v
  go_enter Try.func20, Try.ntmps20
  go_wp2_with (go_at_call 28; refine (HS.out _ (HB.out _ _)).mono ?_; rintro e1 w1 ⟨rfl, q1, rfl⟩)
  go_ret
  exact ⟨rfl, below_drewN (HB.out _ _) _⟩
end Go.Proofs.Ytfndppjicneliaa
