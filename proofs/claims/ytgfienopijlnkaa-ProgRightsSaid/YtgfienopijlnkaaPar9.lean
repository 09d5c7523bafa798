/-
  Tokens as they lie in memory, and the contract of reedbedref09.close; no condition beyond those that each theorem states.
-/
import Derived.Test.YtgfienopijlnkaaPar8
namespace Go.Proofs.Ytgfienopijlnkaa
open Go.RowKit Go.Rb
attribute [local irreducible] Go.wpQuiet

/-- The i-th token behind a place. -/
def TkAt (w : World) (b off i : Nat) (t : Tk) : Prop := ∃ sv, w.cell? ⟨b, off + i * 5, none⟩ = some (.int .i64 t.kind) ∧ w.cell? ⟨b, off + i * 5 + 1, none⟩ = some (.int .i64 t.r) ∧
  w.cell? ⟨b, off + i * 5 + 2, none⟩ = some sv ∧ w.cell? ⟨b, off + i * 5 + 3, none⟩ = some (.int .i64 t.mn) ∧ w.cell? ⟨b, off + i * 5 + 4, none⟩ = some (.int .i64 t.mx) ∧ SetV w sv t.set
theorem TkAt.under {w w' : World} {b off i : Nat} {t : Tk} (h : TkAt w b off i t) (hb : b < w.heap.size) (hw : Below w.heap.size w w') : TkAt w' b off i t := by
  obtain ⟨sv, h0, h1, h2, h3, h4, h5⟩ := h
  exact ⟨sv, (hw.cell (p := ⟨b, _, none⟩) hb).trans h0, (hw.cell (p := ⟨b, _, none⟩) hb).trans h1, (hw.cell (p := ⟨b, _, none⟩) hb).trans h2, (hw.cell (p := ⟨b, _, none⟩) hb).trans h3, (hw.cell (p := ⟨b, _, none⟩) hb).trans h4, h5.below hw⟩
/-- A slice of tokens. -/
def TksR (w : World) (A : Option Addr) (l : List Tk) : Prop := l ≠ [] → ∃ b off, A = some ⟨b, off, none⟩ ∧ b < w.heap.size ∧ ∀ i t, l[i]? = some t → TkAt w b off i t
theorem TksR.under {w w' : World} {A : Option Addr} {l : List Tk} (h : TksR w A l) (hw : Below w.heap.size w w') : TksR w' A l := fun hl => by
  obtain ⟨b, off, hA, hb, ht⟩ := h hl
  exact ⟨b, off, hA, by have := hw.size; omega, fun i t hi => (ht i t hi).under hb hw⟩

/-- Where a parenthesis is closed, of the tokens from the i-th on; -1: nowhere. -/
def closeF : List Tk → Int → Int → Int
  | [], _, _ => -1
  | t :: ts, deep, i =>
    if t.kind = 1 then (if t.r = 40 then closeF ts (deep + 1) (i + 1) else if t.r = 41 then (if deep - 1 = 0 then i else closeF ts (deep - 1) (i + 1)) else closeF ts deep (i + 1))
    else closeF ts deep (i + 1)
set_option maxHeartbeats 1000000 in
theorem close_any (l : List Tk) (A : Option Addr) (n c a0 : Nat) (w : World) (hr : TksR w A l) (hl : l.length = n) (hn : n ≤ 1000) (hc : n ≤ c) (ha : a0 ≤ n) :
    Calls Try.prog 21 #[.slice A n c, .int .i64 (a0 : Int)] w fun e w' => e = .returned (.int .i64 (closeF (l.drop a0) 0 a0)) ∧ w' = w := by
  obtain ⟨R, hR⟩ : ∃ R, closeF (l.drop a0) 0 a0 = R := ⟨_, rfl⟩
  rw [hR]
  have HR := Lib.hid hR
  have HL := Lib.hid hl
  clear hR hl
  have HT := Lib.hid hr
  clear hr
  go_enter Try.func21, Try.ntmps21
  go_wp2_with fail
  go_loopw [5, 6] (fun dv iv wr => ∃ (i : Nat) (d : Int), dv = .int .i64 d ∧ iv = .int .i64 (i : Int) ∧ i ≤ n ∧ -1000 ≤ d + (i : Int) ∧ d ≤ (i : Int) ∧ - (i : Int) ≤ d ∧ wr = w ∧ Hid (closeF (l.drop i) d i = R)) (fun _ iv _ => n - (intOf iv).toNat)
  case atStart => exact ⟨a0, 0, rfl, rfl, ha, by omega, by omega, by omega, rfl, HR.out⟩
  case round =>
  obtain ⟨i, d, rfl, rfl, hin, hd0, hd1, hd2, rfl, hI⟩ := hrel
  by_cases hlt : i < n
  · have hcl : i < l.length := by rw [HL.out]; exact hlt
    obtain ⟨t, ht⟩ : ∃ t, l[i]? = some t := ⟨_, List.getElem?_eq_getElem hcl⟩
    obtain ⟨b, off, rfl, hb, hat⟩ := HT.out (fun e => by rw [e] at hcl; simp at hcl)
    obtain ⟨sv, c0, c1, -⟩ := hat i t ht
    have hI2 : closeF (t :: l.drop (i + 1)) d i = R := by rw [← hI.out, List.drop_eq_getElem_cons hcl, ← Option.some.inj ((List.getElem?_eq_getElem hcl).symm.trans ht)]
    rw [closeF] at hI2
    have HI2 := Lib.hid hI2
    clear hI2 hat ht hcl
    obtain ⟨kind, r, set, mn, mx⟩ := t
    simp only at c0 c1 HI2
    by_cases hk : kind = 1
    · subst hk
      rw [if_pos rfl] at HI2
      by_cases h40 : r = 40
      · subst h40
        rw [if_pos rfl] at HI2
        go_wp2_with fail
        go_roundw
        case rel => exact ⟨i + 1, d + 1, by go_num, by go_num, by omega, by omega, by omega, by omega, trivial, HI2.out⟩
        case measure => simp [intOf]; omega
      · rw [if_neg h40] at HI2
        by_cases h41 : r = 41
        · subst h41
          rw [if_pos rfl] at HI2
          by_cases hd : d - 1 = 0
          · rw [if_pos hd] at HI2
            obtain rfl : d = 1 := by omega
            go_wp2_with fail
            go_returns
            exact ⟨by rw [← HI2.out]; rfl, rfl⟩
          · rw [if_neg hd] at HI2
            have hd' : (d - 1 == 0) = false := by simpa using hd
            go_wp2_with fail
            go_roundw
            case rel => exact ⟨i + 1, d - 1, by go_num, by go_num, by omega, by omega, by omega, by omega, trivial, HI2.out⟩
            case measure => simp [intOf]; omega
        · rw [if_neg h41] at HI2
          go_wp2_with fail
          go_roundw
          case rel => exact ⟨i + 1, d, by go_num, by go_num, by omega, by omega, by omega, by omega, trivial, HI2.out⟩
          case measure => simp [intOf]; omega
    · rw [if_neg hk] at HI2
      go_wp2_with fail
      go_roundw
      case rel => exact ⟨i + 1, d, by go_num, by go_num, by omega, by omega, by omega, by omega, trivial, HI2.out⟩
      case measure => simp [intOf]; omega
  · have HF : Hid (R = -1) := by
      show R = -1
      rw [← hI.out, List.drop_eq_nil_of_le (by rw [HL.out]; omega)]
      rfl
    go_wp2_with fail
    go_returns
    exact ⟨by rw [HF.out]; rfl, rfl⟩
end Go.Proofs.Ytgfienopijlnkaa
