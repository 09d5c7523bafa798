/-
  How the acts of the pool's laws read as they came in; no condition beyond those that each theorem states.
-/
import Derived.Test.YtmebpalfjcejoaaPool6
import Derived.WideKeyPair
namespace Go.Proofs.Ytmebpalfjcejoaa
open Go.RowKit Go.Rb

structure ActD where
  k : Int
  i : Int
  f : Int
  t : Int
  b : List UInt8
/-- One act at an address. -/
structure ActAt (w : World) (B g o : Nat) (x : ActD) (Ab : Option Addr) (cb : Nat) : Prop where
  c0 : w.cell? ⟨g, o, none⟩ = some (.int .i64 x.k)
  c1 : w.cell? ⟨g, o + 1, none⟩ = some (.int .i64 x.i)
  c2 : w.cell? ⟨g, o + 2, none⟩ = some (.int .i64 x.f)
  c3 : w.cell? ⟨g, o + 3, none⟩ = some (.int .i64 x.t)
  c4 : w.cell? ⟨g, o + 4, none⟩ = some (.slice Ab x.b.length cb)
  rd : Rd w B 1 Ab x.b.length (x.b.map bV)
  le : x.b.length ≤ cb
  lt : g < B
  lo : -9223372036854775808 ≤ x.i
  hi : x.i ≤ 9223372036854775807
def ActsAt (w : World) (B : Nat) (A : Option Addr) (n : Nat) (xs : List ActD) : Prop :=
  xs.length = n ∧ ∀ j, j < n → ∃ g o x Ab cb, A = some ⟨g, o, none⟩ ∧ xs[j]? = some x ∧ ActAt w B g (o + j * 5) x Ab cb
theorem ActAt.below {w w' : World} {B g o cb : Nat} {x : ActD} {Ab : Option Addr} (h : ActAt w B g o x Ab cb) (hb : Below B w w') : ActAt w' B g o x Ab cb :=
  ⟨(hb.cell (p := ⟨g, o, none⟩) h.lt).trans h.c0, (hb.cell (p := ⟨g, o + 1, none⟩) h.lt).trans h.c1, (hb.cell (p := ⟨g, o + 2, none⟩) h.lt).trans h.c2, (hb.cell (p := ⟨g, o + 3, none⟩) h.lt).trans h.c3,
    (hb.cell (p := ⟨g, o + 4, none⟩) h.lt).trans h.c4, h.rd.below hb, h.le, h.lt, h.lo, h.hi⟩

section
open Go.ChangeShapes Go.WideShapes Go.ChangeAt Go.Deep
variable {H : Type} {enc : TypeId × Value → H} {w : World} {base : Nat} {spare : Nat → Bool} {held : Bool}
theorem int_cell {n : Nat} {v : Value} {y : DataW H × List MemPlace} (h : DataW.trod enc Try.prog w base spare held n 3 [v] = some y) :
    ∃ z : Int, v = .int .i64 z ∧ -9223372036854775808 ≤ z ∧ z ≤ 9223372036854775807 := by
  obtain ⟨z, hz, -, hw⟩ := DataW.trod_int Try.underlying3 h
  refine ⟨z, by simpa using hz, ?_⟩
  simpa [Lit.wf, IntKind.min, IntKind.max, IntKind.signed, IntKind.bits] using hw
theorem open_acts {fuel : Nat} {A : Option Addr} {len cap : Nat} {x : DataW H × List MemPlace}
    (h : DataW.trod enc Try.prog w base spare held fuel 40 [.slice A len cap] = some x) :
    ∃ xs : List ActD, len ≤ cap ∧ ActsAt w w.heap.size A len xs := by
  rcases slice_fields Try.underlying40 Try.underlying42 (by kernel_rfl) (by kernel_rfl) h with h0 | ⟨a, l, c, h1, hlc, -, hj⟩
  · simp at h0
    obtain ⟨rfl, rfl, rfl⟩ := h0
    exact ⟨[], by omega, rfl, fun j hj => absurd hj (by omega)⟩
  · simp at h1
    obtain ⟨rfl, rfl, rfl⟩ := h1
    have hex : ∀ j, ∃ x : ActD, j < len → ∃ g o Ab cb, a = ⟨g, o, none⟩ ∧ ActAt w w.heap.size g (o + j * 5) x Ab cb := by
      intro j
      by_cases hjl : j < len
      · obtain ⟨n, hf⟩ := hj j hjl
        obtain ⟨v0, y0, e0, t0⟩ := hf 0 _ rfl
        obtain ⟨v1, y1, e1, t1⟩ := hf 1 _ rfl
        obtain ⟨v2, y2, e2, t2⟩ := hf 2 _ rfl
        obtain ⟨v3, y3, e3, t3⟩ := hf 3 _ rfl
        obtain ⟨v4, y4, e4, t4⟩ := hf 4 _ rfl
        obtain ⟨z0, rfl, -⟩ := int_cell t0
        obtain ⟨z1, rfl, l1, u1⟩ := int_cell t1
        obtain ⟨z2, rfl, -⟩ := int_cell t2
        obtain ⟨z3, rfl, -⟩ := int_cell t3
        have hv : ∃ A' l' c', v4 = .slice A' l' c' := by
          rcases open_slice Try.underlying22 t4 with ⟨h0, -⟩ | ⟨a', l', c', _, _, _, _, h0, _⟩
          · exact ⟨none, 0, 0, by simpa using h0⟩
          · exact ⟨some a', l', c', by simpa using h0⟩
        obtain ⟨A', l', c', rfl⟩ := hv
        obtain ⟨bs, hbl, hlc, -, hr⟩ := open_bytes t4
        subst hbl
        have ha' : a = ⟨a.block, a.off, none⟩ := by
          obtain ⟨n', hf'⟩ := hj 0 (by omega)
          obtain ⟨v', y', e', -⟩ := hf' 0 _ rfl
          have e2' : w.cell? (a.add 0) = some v' := e'
          rw [add_zero_] at e2'
          exact plain_of_cell e2'
        rw [ha', Rb.add_plain] at e0 e1 e2 e3 e4
        have hlt := World.block_lt_of_cell? w _ e0
        exact ⟨⟨z0, z1, z2, z3, bs⟩, fun _ => ⟨a.block, a.off, A', c', ha', e0, e1, e2, e3, e4, hr, hlc, hlt, l1, u1⟩⟩
      · exact ⟨⟨0, 0, 0, 0, []⟩, fun h => absurd h hjl⟩
    refine ⟨(List.range len).map fun j => (hex j).choose, hlc, by simp, fun j hj => ?_⟩
    obtain ⟨g, o, Ab, cb, ha, hat⟩ := (hex j).choose_spec hj
    exact ⟨g, o, (hex j).choose, Ab, cb, by rw [ha], by rw [List.getElem?_map, List.getElem?_range hj]; rfl, hat⟩
end
theorem pairKey : Go.WideMaps.ArrKey Try.prog 39 3 2 := ⟨Try.underlying39, by kernel_rfl, by kernel_rfl, by kernel_rfl⟩
end Go.Proofs.Ytmebpalfjcejoaa
