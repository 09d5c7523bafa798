/-
  Programs as they lie in memory, and the contract of reedbedref10.Right; no condition beyond those that each theorem states.
-/
import Derived.Test.YtgfienopijlnkaaBase
import Derived.Handy
namespace Go.Proofs.Ytgfienopijlnkaa
open Go.RowKit Go.Rb
attribute [local irreducible] Go.wpQuiet

/-- An instruction, its set left out. -/
structure In where
  op : Int
  x : Int
  y : Int
def InAt (w : World) (b off i : Nat) (t : In) : Prop := ∃ A n c, w.cell? ⟨b, off + i * 4, none⟩ = some (.int .i64 t.op) ∧ w.cell? ⟨b, off + i * 4 + 1, none⟩ = some (.slice A n c) ∧
  w.cell? ⟨b, off + i * 4 + 2, none⟩ = some (.int .i64 t.x) ∧ w.cell? ⟨b, off + i * 4 + 3, none⟩ = some (.int .i64 t.y)
def InsR (w : World) (A : Option Addr) (l : List In) : Prop := l ≠ [] → ∃ b off, A = some ⟨b, off, none⟩ ∧ b < w.heap.size ∧ ∀ (i : Nat) (t : In), l[i]? = some t → InAt w b off i t
theorem InsR.under {w w' : World} {A : Option Addr} {l : List In} (h : InsR w A l) (hw : Below w.heap.size w w') : InsR w' A l := fun hl => by
  obtain ⟨b, off, hA, hb, ht⟩ := h hl
  refine ⟨b, off, hA, by have := hw.size; omega, fun i t hi => ?_⟩
  obtain ⟨A1, n1, c1, h0, h1, h2, h3⟩ := ht i t hi
  exact ⟨A1, n1, c1, (hw.cell (p := ⟨b, _, none⟩) hb).trans h0, (hw.cell (p := ⟨b, _, none⟩) hb).trans h1, (hw.cell (p := ⟨b, _, none⟩) hb).trans h2, (hw.cell (p := ⟨b, _, none⟩) hb).trans h3⟩
def okI (n : Nat) (t : In) : Bool := decide (0 ≤ t.op ∧ t.op ≤ 4 ∧ (t.op = 0 ∨ (0 ≤ t.x ∧ t.x < (n : Int))) ∧ (t.op ≠ 2 ∨ (0 ≤ t.y ∧ t.y < (n : Int))))
/-- Is a program right? -/
def rightP (n : Nat) (l : List In) : Bool := l.all (okI n) && decide (0 < n)
theorem take_ok {n i : Nat} {l : List In} {t : In} (hi : l[i]? = some t) (h : (l.take i).all (okI n) = true) (ht : okI n t = true) : (l.take (i + 1)).all (okI n) = true := by
  rw [List.take_add_one, hi, List.all_append, h]
  simpa using ht
theorem rightP_bad {n i : Nat} {l : List In} {t : In} (hi : l[i]? = some t) (_ : (l.take i).all (okI n) = true) (ht : okI n t = false) : rightP n l = false := by
  have : l.all (okI n) = false := by
    rw [List.all_eq_false]
    exact ⟨t, List.mem_of_getElem? hi, by simp [ht]⟩
  simp [rightP, this]
set_option maxHeartbeats 1000000 in
theorem refRight_any (l : List In) (A : Option Addr) (n c : Nat) (w : World) (hr : InsR w A l) (hl : l.length = n) (hn : n ≤ 1000000) (hc : n ≤ c) :
    Calls Try.prog 6 #[.slice A n c] w fun e w' => e = .returned (.bool (rightP n l)) ∧ Below w.heap.size w w' := by
  have HL := Lib.hid hl
  have HT := Lib.hid hr
  clear hr hl
  go_enter Try.func6, Try.ntmps6
  go_wp2_with fail
  go_loopw [3] (fun iv wr => ∃ i : Nat, iv = .int .i64 (i : Int) ∧ i ≤ n ∧ Below w.heap.size w wr ∧ Hid ((l.take i).all (okI n) = true)) (fun iv _ => n - (intOf iv).toNat)
  case atStart => exact ⟨0, rfl, by omega, Below.refl _ _, by simp [Hid]⟩
  case round =>
  obtain ⟨i, rfl, hin, hbw, HI⟩ := hrel
  have HB := Lib.hid hbw
  have hgw := hbw.size
  by_cases hlt : i < n
  · have hcl : i < l.length := by rw [HL.out]; exact hlt
    obtain ⟨t, hi⟩ : ∃ t, l[i]? = some t := ⟨_, List.getElem?_eq_getElem hcl⟩
    obtain ⟨b, off, rfl, hb, hat⟩ := (HT.out.under hbw) (fun e => by rw [e] at hcl; simp at hcl)
    obtain ⟨A1, n1, c1, c0, c1', c2, c3⟩ := hat i t hi
    clear hat hcl hbw HL HT
    obtain ⟨op, x, y⟩ := t
    simp only at c0 c2 c3
    by_cases h1 : op < 0
    · skip
      have HF : Hid (rightP n l = false) := rightP_bad hi HI.out (by simp [okI]; omega)
      clear HI
      go_wp2_with fail
      go_returns
      exact ⟨by rw [HF.out]; rfl, HB.out.alloc HB.out.size _⟩
    by_cases h2 : 4 < op
    · skip
      have HF : Hid (rightP n l = false) := rightP_bad hi HI.out (by simp [okI]; omega)
      clear HI
      go_wp2_with fail
      go_returns
      exact ⟨by rw [HF.out]; rfl, HB.out.alloc HB.out.size _⟩
    by_cases h3 : op = 0
    · subst h3
      have HG : Hid ((l.take (i + 1)).all (okI n) = true) := take_ok hi HI.out (by simp [okI])
      clear HI
      go_wp2_with fail
      go_roundw
      case rel => exact ⟨i + 1, by go_num, by omega, HB.out.alloc HB.out.size _, HG.out⟩
      case measure => simp [intOf]; omega
    have h3' : (op != 0) = true := by simpa using h3
    by_cases h4 : x < 0
    · skip
      have HF : Hid (rightP n l = false) := rightP_bad hi HI.out (by simp [okI]; omega)
      clear HI
      go_wp2_with fail
      go_returns
      exact ⟨by rw [HF.out]; rfl, HB.out.alloc HB.out.size _⟩
    by_cases h5 : (n : Int) ≤ x
    · skip
      have HF : Hid (rightP n l = false) := rightP_bad hi HI.out (by simp [okI]; omega)
      clear HI
      go_wp2_with fail
      go_returns
      exact ⟨by rw [HF.out]; rfl, HB.out.alloc HB.out.size _⟩
    by_cases h6 : op = 2
    · subst h6
      by_cases h7 : y < 0
      · skip
        have HF : Hid (rightP n l = false) := rightP_bad hi HI.out (by simp [okI]; omega)
        clear HI
        go_wp2_with fail
        go_returns
        exact ⟨by rw [HF.out]; rfl, HB.out.alloc HB.out.size _⟩
      by_cases h8 : (n : Int) ≤ y
      · skip
        have HF : Hid (rightP n l = false) := rightP_bad hi HI.out (by simp [okI]; omega)
        clear HI
        go_wp2_with fail
        go_returns
        exact ⟨by rw [HF.out]; rfl, HB.out.alloc HB.out.size _⟩
      skip
      have HG : Hid ((l.take (i + 1)).all (okI n) = true) := take_ok hi HI.out (by simp [okI]; omega)
      clear HI
      go_wp2_with fail
      go_roundw
      case rel => exact ⟨i + 1, by go_num, by omega, HB.out.alloc HB.out.size _, HG.out⟩
      case measure => simp [intOf]; omega
    have h6' : (op == 2) = false := by simpa using h6
    have HG : Hid ((l.take (i + 1)).all (okI n) = true) := take_ok hi HI.out (by simp [okI]; omega)
    clear HI
    go_wp2_with fail
    go_roundw
    case rel => exact ⟨i + 1, by go_num, by omega, HB.out.alloc HB.out.size _, HG.out⟩
    case measure => simp [intOf]; omega
  · have e : i = n := by omega
    have HF : Hid (rightP n l = decide (0 < n)) := by
      show _ = _
      have : (l.take i).all (okI n) = true := HI.out
      rw [List.take_of_length_le (by rw [HL.out]; omega)] at this
      simp [rightP, this]
    clear hbw e HI
    go_wp2_with fail
    go_returns
    exact ⟨by rw [HF.out]; simp, HB.out⟩
end Go.Proofs.Ytgfienopijlnkaa
