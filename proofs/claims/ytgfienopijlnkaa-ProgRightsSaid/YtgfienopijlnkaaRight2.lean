/-
  The contract of prog.Right; no condition beyond those that each theorem states.
-/
import Derived.Test.YtgfienopijlnkaaRight1
namespace Go.Proofs.Ytgfienopijlnkaa
open Go.RowKit Go.Rb
attribute [local irreducible] Go.wpQuiet

def inB (n : Nat) (i : Int) : Bool := decide (0 ≤ i ∧ i < (n : Int))
theorem there_any (i : Int) (g : Nat) (A : Option Addr) (n c : Nat) (w : World) (hg : w.cell? ⟨g, 0, none⟩ = some (.slice A n c)) :
    Calls Try.prog 10 #[.int .i64 i, .pointer (some ⟨g, 0, none⟩)] w fun e w' => e = .returned (.bool (inB n i)) ∧ w' = w := by
  by_cases h0 : 0 ≤ i
  · by_cases h1 : i < (n : Int)
    · have e : inB n i = true := by simp [inB, h0, h1]
      rw [e]
      go_enter Try.func10, Try.ntmps10
      go_wp2_with fail
      go_ret
      exact ⟨rfl, rfl⟩
    · have e : inB n i = false := by simp [inB, h1]
      rw [e]
      go_enter Try.func10, Try.ntmps10
      go_wp2_with fail
      go_ret
      exact ⟨rfl, rfl⟩
  · have e : inB n i = false := by simp [inB, h0]
    rw [e]
    go_enter Try.func10, Try.ntmps10
    go_wp2_with fail
    go_ret
    exact ⟨rfl, rfl⟩
set_option maxHeartbeats 1000000 in
theorem progRight_any (l : List In) (A : Option Addr) (n c : Nat) (w : World) (hr : InsR w A l) (hl : l.length = n) (hn : n ≤ 1000000) (hc : n ≤ c) :
    Calls Try.prog 5 #[.slice A n c] w fun e w' => e = .returned (.bool (rightP n l)) ∧ Below w.heap.size w w' := by
  have HL := Lib.hid hl
  have HT := Lib.hid hr
  clear hr hl
  go_enter Try.func5, Try.ntmps5
  go_wp2_with fail
  go_loopw [9] (fun iv wr => ∃ i : Nat, iv = .int .i64 (i : Int) ∧ i ≤ n ∧ Below w.heap.size w wr ∧ Hid ((l.take i).all (okI n) = true) ∧ Hid (wr.cell? ⟨w.heap.size, 0, none⟩ = some (.slice A n c)) ∧ w.heap.size < wr.heap.size) (fun iv _ => n - (intOf iv).toNat)
  case atStart => exact ⟨0, rfl, by omega, below_al (Below.refl _ _) _, by simp [Hid], by simp [Hid], by simp⟩
  case round =>
  obtain ⟨i, rfl, hin, hbw, HI, HCG, hgl⟩ := hrel
  have HB := Lib.hid hbw
  have hgw := hbw.size
  have HTH : Hid (∀ (j : Int) W, W.cell? ⟨w.heap.size, 0, none⟩ = some (.slice A n c) → Calls Try.prog 10 #[.int .i64 j, .pointer (some ⟨w.heap.size, 0, none⟩)] W fun e w' => e = .returned (.bool (inB n j)) ∧ w' = W) := fun j W hW => there_any j _ A n c W hW
  have HCA : Hid (∀ o, (wr.alloc o).cell? ⟨w.heap.size, 0, none⟩ = some (.slice A n c)) := fun o => (World.cell?_alloc_lt _ _ ⟨_, 0, none⟩ hgl).trans HCG.out
  by_cases hlt : i < n
  · have hcl : i < l.length := by rw [HL.out]; exact hlt
    obtain ⟨t, hi⟩ : ∃ t, l[i]? = some t := ⟨_, List.getElem?_eq_getElem hcl⟩
    obtain ⟨b, off, rfl, hb, hat⟩ := (HT.out.under hbw) (fun e => by rw [e] at hcl; simp at hcl)
    obtain ⟨A1, n1, c1, c0, c1', c2, c3⟩ := hat i t hi
    clear hat hcl hbw HL HT
    obtain ⟨op, x, y⟩ := t
    simp only at c0 c2 c3
    by_cases h0 : op = 0
    · subst h0
      have HG : Hid ((l.take (i + 1)).all (okI n) = true) := take_ok hi HI.out (by simp [okI])
      clear HI
      go_wp2_with (go_at_call 10; go_loud (refine (HTH.out _ _ (HCA.out _)).mono ?_; rintro e1 w1 ⟨rfl, rfl⟩))
      go_roundw
      case rel => exact ⟨i + 1, by go_num, by omega, HB.out.alloc HB.out.size _, HG.out, HCA.out _, by simp; omega⟩
      case measure => simp [intOf]; omega
    have h0' : (op == 0) = false := by simpa using h0
    by_cases h2 : op = 2
    · subst h2
      cases hy : inB n y with
      | false =>
        have HF : Hid (rightP n l = false) := rightP_bad hi HI.out (by simp [inB] at *; simp [okI]; omega)
        clear HI
        go_wp2_with (go_at_call 10; go_loud (refine (HTH.out _ _ (HCA.out _)).mono ?_; rintro e1 w1 ⟨rfl, rfl⟩))
        go_returns
        exact ⟨by rw [HF.out]; rfl, HB.out.alloc HB.out.size _⟩
      | true =>
        cases hx : inB n x with
        | false =>
          have HF : Hid (rightP n l = false) := rightP_bad hi HI.out (by simp [inB] at *; simp [okI]; omega)
          clear HI
          go_wp2_with (go_at_call 10; go_loud (refine (HTH.out _ _ (HCA.out _)).mono ?_; rintro e1 w1 ⟨rfl, rfl⟩))
          go_returns
          exact ⟨by rw [HF.out]; rfl, HB.out.alloc HB.out.size _⟩
        | true =>
          have HG : Hid ((l.take (i + 1)).all (okI n) = true) := take_ok hi HI.out (by simp [inB] at *; simp [okI]; omega)
          clear HI
          go_wp2_with (go_at_call 10; go_loud (refine (HTH.out _ _ (HCA.out _)).mono ?_; rintro e1 w1 ⟨rfl, rfl⟩))
          go_roundw
          case rel => exact ⟨i + 1, by go_num, by omega, HB.out.alloc HB.out.size _, HG.out, HCA.out _, by simp; omega⟩
          case measure => simp [intOf]; omega
    have h2' : (op == 2) = false := by simpa using h2
    by_cases h1 : op = 1
    · subst h1
      cases hx : inB n x with
      | false =>
        have HF : Hid (rightP n l = false) := rightP_bad hi HI.out (by simp [inB] at *; simp [okI]; omega)
        clear HI
        go_wp2_with (go_at_call 10; go_loud (refine (HTH.out _ _ (HCA.out _)).mono ?_; rintro e1 w1 ⟨rfl, rfl⟩))
        go_returns
        exact ⟨by rw [HF.out]; rfl, HB.out.alloc HB.out.size _⟩
      | true =>
        have HG : Hid ((l.take (i + 1)).all (okI n) = true) := take_ok hi HI.out (by simp [inB] at *; simp [okI]; omega)
        clear HI
        go_wp2_with (go_at_call 10; go_loud (refine (HTH.out _ _ (HCA.out _)).mono ?_; rintro e1 w1 ⟨rfl, rfl⟩))
        go_roundw
        case rel => exact ⟨i + 1, by go_num, by omega, HB.out.alloc HB.out.size _, HG.out, HCA.out _, by simp; omega⟩
        case measure => simp [intOf]; omega
    have h1' : (op == 1) = false := by simpa using h1
    by_cases h3 : op = 3
    · subst h3
      cases hx : inB n x with
      | false =>
        have HF : Hid (rightP n l = false) := rightP_bad hi HI.out (by simp [inB] at *; simp [okI]; omega)
        clear HI
        go_wp2_with (go_at_call 10; go_loud (refine (HTH.out _ _ (HCA.out _)).mono ?_; rintro e1 w1 ⟨rfl, rfl⟩))
        go_returns
        exact ⟨by rw [HF.out]; rfl, HB.out.alloc HB.out.size _⟩
      | true =>
        have HG : Hid ((l.take (i + 1)).all (okI n) = true) := take_ok hi HI.out (by simp [inB] at *; simp [okI]; omega)
        clear HI
        go_wp2_with (go_at_call 10; go_loud (refine (HTH.out _ _ (HCA.out _)).mono ?_; rintro e1 w1 ⟨rfl, rfl⟩))
        go_roundw
        case rel => exact ⟨i + 1, by go_num, by omega, HB.out.alloc HB.out.size _, HG.out, HCA.out _, by simp; omega⟩
        case measure => simp [intOf]; omega
    have h3' : (op == 3) = false := by simpa using h3
    by_cases h4 : op = 4
    · subst h4
      cases hx : inB n x with
      | false =>
        have HF : Hid (rightP n l = false) := rightP_bad hi HI.out (by simp [inB] at *; simp [okI]; omega)
        clear HI
        go_wp2_with (go_at_call 10; go_loud (refine (HTH.out _ _ (HCA.out _)).mono ?_; rintro e1 w1 ⟨rfl, rfl⟩))
        go_returns
        exact ⟨by rw [HF.out]; rfl, HB.out.alloc HB.out.size _⟩
      | true =>
        have HG : Hid ((l.take (i + 1)).all (okI n) = true) := take_ok hi HI.out (by simp [inB] at *; simp [okI]; omega)
        clear HI
        go_wp2_with (go_at_call 10; go_loud (refine (HTH.out _ _ (HCA.out _)).mono ?_; rintro e1 w1 ⟨rfl, rfl⟩))
        go_roundw
        case rel => exact ⟨i + 1, by go_num, by omega, HB.out.alloc HB.out.size _, HG.out, HCA.out _, by simp; omega⟩
        case measure => simp [intOf]; omega
    have h4' : (op == 4) = false := by simpa using h4
    have HF : Hid (rightP n l = false) := rightP_bad hi HI.out (by simp [okI]; omega)
    clear HI
    go_wp2_with (go_at_call 10; go_loud (refine (HTH.out _ _ (HCA.out _)).mono ?_; rintro e1 w1 ⟨rfl, rfl⟩))
    go_returns
    exact ⟨by rw [HF.out]; rfl, HB.out.alloc HB.out.size _⟩
  · have e : i = n := by omega
    have HF : Hid (rightP n l = decide (0 < n)) := by
      show _ = _
      have : (l.take i).all (okI n) = true := HI.out
      rw [List.take_of_length_le (by rw [HL.out]; omega)] at this
      simp [rightP, this]
    have cg := HCG.out
    clear hbw e HI
    go_wp2_with fail
    go_returns
    exact ⟨by rw [HF.out]; simp, HB.out⟩
end Go.Proofs.Ytgfienopijlnkaa
