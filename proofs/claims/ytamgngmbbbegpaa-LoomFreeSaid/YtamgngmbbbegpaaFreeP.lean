/-
  Plain facts: tasks that wait for nobody get over; no condition beyond those that each theorem states.
-/
import Derived.Test.YtamgngmbbbegpaaRun1
namespace Go.Proofs.Ytamgngmbbbegpaa
open Go.RowKit Go.Rb

def fjob (b : UInt8) : Jb := ⟨((b.toNat % 50 : Nat) : Int), -1, 0⟩
def fjs (bs : List UInt8) : List Jb := bs.map fjob
theorem fjs_get {bs : List UInt8} {i : Nat} (h : i < bs.length) : (fjs bs).getD i default = fjob bs[i] := by
  unfold fjs
  rw [List.getD_eq_getElem?_getD, List.getElem?_map, List.getElem?_eq_getElem h]; rfl
theorem fjs_small {bs : List UInt8} (h : bs.length ≤ 10) : smallP (fjs bs) := by
  refine ⟨by simpa [fjs] using h, fun i hi => ?_⟩
  have hi' : i < bs.length := by simpa [fjs] using hi
  unfold okJ
  rw [fjs_get hi']
  show ((bs[i].toNat % 50 : Nat) : Int) ≤ 50 ∧ (0 : Int) ≤ 100 ∧ (-100 : Int) ≤ 0
  omega
theorem fjs_ready {bs : List UInt8} {tk : List Int} {i : Nat} (h : i < bs.length) : readyP (fjs bs) tk i ↔ ¬ overP (fjs bs) tk i := by
  unfold readyP
  constructor
  · exact fun h => h.1
  · intro ho
    refine ⟨ho, .inl (.inl ?_)⟩
    rw [fjs_get h]
    show (-1 : Int) < 0
    omega
/-- Nobody took more than it has. -/
def Le (js : List Jb) (tk : List Int) : Prop := ∀ j, j < js.length → tk.getD j 0 ≤ (js.getD j default).st
theorem le_next {js : List Jb} {tk : List Int} {x : Nat} (h : Le js tk) (hl : tk.length = js.length) (hr : readyP js tk x) : Le js (inc tk x) := by
  intro j hj
  have hov : tk.getD x 0 < (js.getD x default).st := by have := hr.1; unfold overP at this; omega
  unfold inc
  rw [List.getD_eq_getElem?_getD, List.getElem?_set]
  by_cases e : x = j
  · subst e
    rw [if_pos rfl, if_pos (by omega)]
    show _ + 1 ≤ _
    omega
  · rw [if_neg e, ← List.getD_eq_getElem?_getD]
    exact h j hj
theorem le_run {js : List Jb} {ps : List Int} {n : Nat} {tk : List Int} {c : Nat} (h : Le js tk) (hr : Rn n tk c) (hs : smallP js) (hl : js.length = n) : ∀ i, (∀ j, j < i → pickO js (runTk js ps n tk j) n (pk ps j) ≠ none) → Le js (runTk js ps n tk i)
  | 0, _ => h
  | i + 1, hno => by
    have ih := le_run (ps := ps) h hr hs hl i (fun j hj => hno j (by omega))
    have hrn := runTk_rn (ps := ps) hr hs hl i (fun j hj => hno j (by omega))
    cases ho : pickO js (runTk js ps n tk i) n (pk ps i) with
    | none => exact absurd ho (hno i (by omega))
    | some x =>
      obtain ⟨h1, h2⟩ := pick_lt ho
      show Le js (incO (runTk js ps n tk i) (pickO js (runTk js ps n tk i) n (pk ps i)))
      rw [ho]
      exact le_next ih (by rw [hrn.len, hl]) h2
/-- Where nothing is picked any more, each took what it has. -/
theorem free_done {bs : List UInt8} {tk : List Int} {p : Int} (hle : Le (fjs bs) tk) (h : pickO (fjs bs) tk bs.length p = none) : ∀ j, (hj : j < bs.length) → tk.getD j 0 = ((bs[j].toNat % 50 : Nat) : Int) := by
  intro j hj
  have h0 : (listP (fjs bs) tk bs.length).length = 0 := by
    unfold pickO at h
    split at h
    · assumption
    · cases h
  have hnr : ¬ readyP (fjs bs) tk j := fun hr => by
    have : j ∈ listP (fjs bs) tk bs.length := by
      unfold listP
      rw [List.mem_filter]
      exact ⟨List.mem_range.2 hj, by simpa using hr⟩
    rw [List.eq_nil_of_length_eq_zero h0] at this
    cases this
  have ho : overP (fjs bs) tk j := Classical.byContradiction fun h => hnr ((fjs_ready hj).2 h)
  have h1 := hle j (by simpa [fjs] using hj)
  unfold overP at ho
  rw [fjs_get hj] at h1 ho
  have h2 : (fjob bs[j]).st = ((bs[j].toNat % 50 : Nat) : Int) := rfl
  omega
end Go.Proofs.Ytamgngmbbbegpaa
