/-
  How a program reads as it came in; no condition beyond those that each theorem states.
-/
import Derived.Test.YtgfienopijlnkaaRight1
import Derived.ChangeShapes
import Derived.WideShapes
import Derived.Deep.Slices
import Derived.Deep.Fields
import Derived.ProofKit
import Derived.OpenShut
namespace Go.Proofs.Ytgfienopijlnkaa
open Go.RowKit Go.Rb
section
open Go.ChangeShapes Go.WideShapes Go.ChangeAt Go.Deep
variable {H : Type} {enc : TypeId × Value → H} {w : World} {base : Nat} {spare : Nat → Bool} {held : Bool}
theorem int_cell {n : Nat} {v : Value} {y : DataW H × List MemPlace} (h : DataW.trod enc Try.prog w base spare held n 3 [v] = some y) : ∃ z : Int, v = .int .i64 z := by
  obtain ⟨z, hz, -, hw⟩ := DataW.trod_int Try.underlying3 h
  exact ⟨z, by simpa using hz⟩
theorem set_cell {n : Nat} {v : Value} {y : DataW H × List MemPlace} (h : DataW.trod enc Try.prog w base spare held n 25 [v] = some y) : ∃ A l c, v = .slice A l c := by
  rcases open_slice Try.underlying25 h with h0 | ⟨a, len, cap, m, n, D, Pl, hcs, -⟩
  · exact ⟨none, 0, 0, by simpa using h0.1⟩
  · exact ⟨some a, len, cap, by simpa using hcs⟩
theorem open_insts {fuel : Nat} {A : Option Addr} {len cap : Nat} {x : DataW H × List MemPlace}
    (h : DataW.trod enc Try.prog w base spare held fuel 22 [.slice A len cap] = some x) :
    ∃ l : List In, l.length = len ∧ len ≤ cap ∧ InsR w A l := by
  rcases slice_fields Try.underlying22 Try.underlying37 (by kernel_rfl) (by kernel_rfl) h with h0 | ⟨a, l, c, h1, hlc, -, hj⟩
  · simp at h0
    obtain ⟨rfl, rfl, rfl⟩ := h0
    exact ⟨[], rfl, Nat.le_refl _, fun h => absurd rfl h⟩
  · simp at h1
    obtain ⟨rfl, rfl, rfl⟩ := h1
    have hex : ∀ j, ∃ t : In, j < len → a = ⟨a.block, a.off, none⟩ ∧ a.block < w.heap.size ∧ InAt w a.block a.off j t := by
      intro j
      by_cases hjl : j < len
      · obtain ⟨n, hf⟩ := hj j hjl
        obtain ⟨v0, y0, e0, t0⟩ := hf 0 _ rfl
        obtain ⟨v1, y1, e1, t1⟩ := hf 1 _ rfl
        obtain ⟨v2, y2, e2, t2⟩ := hf 2 _ rfl
        obtain ⟨v3, y3, e3, t3⟩ := hf 3 _ rfl
        obtain ⟨z0, rfl⟩ := int_cell t0
        obtain ⟨A1, l1, c1, rfl⟩ := set_cell t1
        obtain ⟨z2, rfl⟩ := int_cell t2
        obtain ⟨z3, rfl⟩ := int_cell t3
        have ha' : a = ⟨a.block, a.off, none⟩ := by
          obtain ⟨n', hf'⟩ := hj 0 (by omega)
          obtain ⟨v', y', e', -⟩ := hf' 0 _ rfl
          have e2' : w.cell? (a.add 0) = some v' := e'
          rw [add_zero_] at e2'
          exact plain_of_cell e2'
        generalize hab : a.block = ab at *
        generalize hao : a.off = ao at *
        subst ha'
        have f0 : w.cell? ((⟨ab, ao, none⟩ : Addr).add (j * 4 + 0)) = some (.int .i64 z0) := e0
        have f1 : w.cell? ((⟨ab, ao, none⟩ : Addr).add (j * 4 + 1)) = some (.slice A1 l1 c1) := e1
        have f2 : w.cell? ((⟨ab, ao, none⟩ : Addr).add (j * 4 + 2)) = some (.int .i64 z2) := e2
        have f3 : w.cell? ((⟨ab, ao, none⟩ : Addr).add (j * 4 + 3)) = some (.int .i64 z3) := e3
        rw [Rb.add_plain] at f0 f1 f2 f3
        refine ⟨⟨z0, z2, z3⟩, fun _ => ⟨rfl, ?_, A1, l1, c1, by rw [← f0]; rfl, by rw [← f1]; rfl, by rw [← f2]; rfl, by rw [← f3]; rfl⟩⟩
        rcases Nat.lt_or_ge ab w.heap.size with hlt | hge
        · exact hlt
        · simp [World.cell?, Array.getElem?_eq_none hge] at f0
      · exact ⟨⟨0, 0, 0⟩, fun h => absurd h hjl⟩
    refine ⟨(List.range len).map fun j => (hex j).choose, by simp, hlc, fun hne => ?_⟩
    have hp : 0 < len := by
      rcases Nat.eq_zero_or_pos len with h0 | h0
      · subst h0; exact absurd rfl hne
      · exact h0
    obtain ⟨ha, hb, -⟩ := (hex 0).choose_spec hp
    refine ⟨a.block, a.off, by rw [← ha], hb, fun i t hi => ?_⟩
    rw [List.getElem?_map] at hi
    by_cases hil : i < len
    · rw [List.getElem?_range hil] at hi
      obtain rfl : (hex i).choose = t := by simpa using hi
      exact ((hex i).choose_spec hil).2.2
    · rw [List.getElem?_eq_none (by simpa using hil)] at hi
      simp at hi
end
end Go.Proofs.Ytgfienopijlnkaa
