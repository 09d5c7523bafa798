/-
  The document's answer for layer 18, plain: which records are told, and how; no condition beyond those that each theorem states.
-/
import Derived.Test.YtbgmdjceecbbhaaDoorRefL2
namespace Go.Proofs.YtbgmdjceecbbhaaDoor
open Go.RowKit Go.Rb

def rAt (l : List Rw) (i : Nat) : Rc := match l[i]? with
  | some x => x.r
  | none => ⟨0, 0, []⟩
theorem rAt_get (l : List Rw) (i : Nat) (h : i < l.length) : rAt l i = l[i].r := by unfold rAt; rw [List.getElem?_eq_getElem h]
/-- Is record j told? -/
def toldB (l : List Rw) (be af j : Nat) : Bool :=
  hitAt l j || (List.range j).any (fun k => decide (j ≤ k + af) && hitAt l k) || (List.range l.length).any (fun k => decide (j < k) && decide (k ≤ j + be) && hitAt l k)
theorem hitAt_lt {l : List Rw} {j : Nat} (h : hitAt l j = true) : j < l.length := by
  rcases Nat.lt_or_ge j l.length with h1 | h1
  · exact h1
  · rw [hitAt_out l j h1] at h; cases h
theorem toldB_iff (l : List Rw) (be af j : Nat) : toldB l be af j = true ↔ hitAt l j = true ∨ (∃ k, k < j ∧ j ≤ k + af ∧ hitAt l k = true) ∨ (∃ k, j < k ∧ k ≤ j + be ∧ hitAt l k = true) := by
  unfold toldB
  simp only [Bool.or_eq_true, List.any_eq_true, List.mem_range, Bool.and_eq_true, decide_eq_true_eq]
  constructor
  · rintro ((h | ⟨k, h1, h2, h3⟩) | ⟨k, h1, ⟨h2, h3⟩, h4⟩)
    · exact .inl h
    · exact .inr (.inl ⟨k, h1, h2, h3⟩)
    · exact .inr (.inr ⟨k, h2, h3, h4⟩)
  · rintro (h | ⟨k, h1, h2, h3⟩ | ⟨k, h1, h2, h3⟩)
    · exact .inl (.inl h)
    · exact .inl (.inr ⟨k, h1, h2, h3⟩)
    · exact .inr ⟨k, hitAt_lt h3, ⟨h1, h2⟩, h3⟩
/-- What is told of one, behind the one that was told last. -/
def sepN (l : List Rw) (last : Option Nat) (i : Nat) : List (List UInt8) := match last with
  | some k => if (rAt l i).n != wrap64 ((rAt l k).n + 1) then [[45, 45]] else []
  | none => []
def emit1 (l : List Rw) (last : Option Nat) (i : Nat) : List (List UInt8) := sepN l last i ++ [line (rAt l i) (if hitAt l i then 58 else 45)]
/-- What is told of the first i. -/
def emitI (l : List Rw) (t : Nat → Bool) : Nat → List (List UInt8) × Option Nat
  | 0 => ([], none)
  | i + 1 => if t i then ((emitI l t i).1 ++ emit1 l (emitI l t i).2 i, some i) else emitI l t i
theorem emitI_last (l : List Rw) (t : Nat → Bool) : ∀ i k, (emitI l t i).2 = some k → k < i
  | 0, k, h => by cases h
  | i + 1, k, h => by
    unfold emitI at h
    by_cases ht : t i = true
    · rw [if_pos ht] at h
      injection h with h
      omega
    · rw [if_neg ht] at h
      have := emitI_last l t i k h
      omega
theorem emit1_len (l : List Rw) (last : Option Nat) (i : Nat) : (emit1 l last i).length ≤ 2 := by
  unfold emit1 sepN
  split
  · split <;> simp
  · simp
theorem emitI_len (l : List Rw) (t : Nat → Bool) : ∀ i, (emitI l t i).1.length ≤ 2 * i
  | 0 => by simp [emitI]
  | i + 1 => by
    have := emitI_len l t i
    have := emit1_len l (emitI l t i).2 i
    unfold emitI
    split
    · simp only [List.length_append]; omega
    · omega
theorem emitI_yes (l : List Rw) (t : Nat → Bool) (i : Nat) (h : t i = true) : emitI l t (i + 1) = ((emitI l t i).1 ++ emit1 l (emitI l t i).2 i, some i) := by
  show (if t i then _ else _) = _
  rw [if_pos h]
theorem emitI_no (l : List Rw) (t : Nat → Bool) (i : Nat) (h : t i = false) : emitI l t (i + 1) = emitI l t i := by
  show (if t i then _ else _) = _
  rw [if_neg (by rw [h]; decide)]
def lastV (o : Option Nat) : Int := match o with
  | some k => (k : Int)
  | none => -1
end Go.Proofs.YtbgmdjceecbbhaaDoor
