/-
  How the tasks of the loom's laws read as they came in; no condition beyond those that each theorem states.
-/
import Derived.Test.YtamgngmbbbegpaaLoom1
import Derived.ChangeShapes
import Derived.WideShapes
namespace Go.Proofs.Ytamgngmbbbegpaa
open Go.RowKit Go.Rb
section
open Go.ChangeShapes Go.WideShapes Go.ChangeAt Go.Deep
variable {H : Type} {enc : TypeId × Value → H} {w : World} {base : Nat} {spare : Nat → Bool} {held : Bool}
theorem int_cell {n : Nat} {v : Value} {y : DataW H × List MemPlace} (h : DataW.trod enc Try.prog w base spare held n 3 [v] = some y) :
    ∃ z : Int, v = .int .i64 z ∧ -9223372036854775808 ≤ z ∧ z ≤ 9223372036854775807 := by
  obtain ⟨z, hz, -, hw⟩ := DataW.trod_int Try.underlying3 h
  refine ⟨z, by simpa using hz, ?_⟩
  simpa [Lit.wf, IntKind.min, IntKind.max, IntKind.signed, IntKind.bits] using hw
theorem open_jobs {fuel : Nat} {A : Option Addr} {len cap : Nat} {x : DataW H × List MemPlace}
    (h : DataW.trod enc Try.prog w base spare held fuel 22 [.slice A len cap] = some x) :
    ∃ js : List Jb, js.length = len ∧ len ≤ cap ∧ Rd w w.heap.size 3 A len (flat3 (jrow js) len) := by
  rcases slice_fields Try.underlying22 Try.underlying47 (by kernel_rfl) (by kernel_rfl) h with h0 | ⟨a, l, c, h1, hlc, -, hj⟩
  · simp at h0
    obtain ⟨rfl, rfl, rfl⟩ := h0
    exact ⟨[], rfl, by omega, by simp [flat3], fun h => absurd h (by omega)⟩
  · simp at h1
    obtain ⟨rfl, rfl, rfl⟩ := h1
    have hex : ∀ j, ∃ x : Jb, j < len → a = ⟨a.block, a.off, none⟩ ∧ a.block < w.heap.size ∧ w.cell? ⟨a.block, a.off + j * 3, none⟩ = some (.int .i64 x.st) ∧ w.cell? ⟨a.block, a.off + (j * 3 + 1), none⟩ = some (.int .i64 x.on) ∧ w.cell? ⟨a.block, a.off + (j * 3 + 2), none⟩ = some (.int .i64 x.af) := by
      intro j
      by_cases hjl : j < len
      · obtain ⟨n, hf⟩ := hj j hjl
        obtain ⟨v0, y0, e0, t0⟩ := hf 0 _ rfl
        obtain ⟨v1, y1, e1, t1⟩ := hf 1 _ rfl
        obtain ⟨v2, y2, e2, t2⟩ := hf 2 _ rfl
        obtain ⟨z0, rfl, -⟩ := int_cell t0
        obtain ⟨z1, rfl, -⟩ := int_cell t1
        obtain ⟨z2, rfl, -⟩ := int_cell t2
        have ha' : a = ⟨a.block, a.off, none⟩ := by
          obtain ⟨n', hf'⟩ := hj 0 (by omega)
          obtain ⟨v', y', e', -⟩ := hf' 0 _ rfl
          have e2' : w.cell? (a.add 0) = some v' := e'
          rw [add_zero_] at e2'
          exact plain_of_cell e2'
        rw [ha', Rb.add_plain] at e0 e1 e2
        have hlt := World.block_lt_of_cell? w _ e0
        exact ⟨⟨z0, z1, z2⟩, fun _ => ⟨ha', hlt, e0, e1, e2⟩⟩
      · exact ⟨⟨0, 0, 0⟩, fun h => absurd h hjl⟩
    refine ⟨(List.range len).map fun j => (hex j).choose, by simp, hlc, flat3_len _ _, fun h0 => ?_⟩
    have hs0 := (hex 0).choose_spec h0
    refine ⟨a.block, a.off, by rw [← hs0.1], hs0.2.1, fun m hm => ?_⟩
    have hj3 : m / 3 < len := by omega
    have hs := (hex (m / 3)).choose_spec hj3
    have hg : ((List.range len).map fun j => (hex j).choose).getD (m / 3) default = (hex (m / 3)).choose := by
      rw [List.getD_eq_getElem?_getD, List.getElem?_map, List.getElem?_range hj3]; rfl
    obtain ⟨f0, f1, f2⟩ := flat3_get (jrow ((List.range len).map fun j => (hex j).choose)) len (m / 3) hj3
    unfold jrow at f0 f1 f2
    rw [hg] at f0 f1 f2
    rcases (by omega : m = m / 3 * 3 ∨ m = m / 3 * 3 + 1 ∨ m = m / 3 * 3 + 2) with e | e | e
    · rw [e]
      have e' : m / 3 * 3 / 3 = m / 3 := by omega
      rw [hs.2.2.1]; exact f0.symm
    · rw [e, hs.2.2.2.1]; exact f1.symm
    · rw [e, hs.2.2.2.2]; exact f2.symm
end
end Go.Proofs.Ytamgngmbbbegpaa
