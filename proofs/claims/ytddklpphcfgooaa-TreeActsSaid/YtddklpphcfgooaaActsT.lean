/-
  How the acts of the tree's laws read as they came in; no condition beyond those that each theorem states.
-/
import Derived.Test.YtddklpphcfgooaaTree5
import Derived.WideKeyPair
namespace Go.Proofs.Ytddklpphcfgooaa
open Go.RowKit Go.Rb

structure ActD where
  k : Int
  i : Int
  c : Int
/-- One act at an address. -/
structure ActAt (w : World) (B g o : Nat) (x : ActD) : Prop where
  c0 : w.cell? ⟨g, o, none⟩ = some (.int .i64 x.k)
  c1 : w.cell? ⟨g, o + 1, none⟩ = some (.int .i64 x.i)
  c2 : w.cell? ⟨g, o + 2, none⟩ = some (.int .i64 x.c)
  lt : g < B
def ActsAt (w : World) (B : Nat) (A : Option Addr) (n : Nat) (xs : List ActD) : Prop :=
  xs.length = n ∧ ∀ j, j < n → ∃ g o x, A = some ⟨g, o, none⟩ ∧ xs[j]? = some x ∧ ActAt w B g (o + j * 3) x
theorem ActAt.below {w w' : World} {B g o : Nat} {x : ActD} (h : ActAt w B g o x) (hb : Below B w w') : ActAt w' B g o x :=
  ⟨(hb.cell (p := ⟨g, o, none⟩) h.lt).trans h.c0, (hb.cell (p := ⟨g, o + 1, none⟩) h.lt).trans h.c1, (hb.cell (p := ⟨g, o + 2, none⟩) h.lt).trans h.c2, h.lt⟩

section
open Go.ChangeShapes Go.WideShapes Go.ChangeAt Go.Deep
variable {H : Type} {enc : TypeId × Value → H} {w : World} {base : Nat} {spare : Nat → Bool} {held : Bool}
theorem int_cell {n : Nat} {v : Value} {y : DataW H × List MemPlace} (h : DataW.trod enc Try.prog w base spare held n 3 [v] = some y) :
    ∃ z : Int, v = .int .i64 z ∧ -9223372036854775808 ≤ z ∧ z ≤ 9223372036854775807 := by
  obtain ⟨z, hz, -, hw⟩ := DataW.trod_int Try.underlying3 h
  refine ⟨z, by simpa using hz, ?_⟩
  simpa [Lit.wf, IntKind.min, IntKind.max, IntKind.signed, IntKind.bits] using hw
theorem errno_cell {n : Nat} {v : Value} {y : DataW H × List MemPlace} (h : DataW.trod enc Try.prog w base spare held n 25 [v] = some y) :
    ∃ z : Int, v = .int .i64 z ∧ -9223372036854775808 ≤ z ∧ z ≤ 9223372036854775807 := by
  obtain ⟨z, hz, -, hw⟩ := DataW.trod_int Try.underlying25 h
  refine ⟨z, by simpa using hz, ?_⟩
  simpa [Lit.wf, IntKind.min, IntKind.max, IntKind.signed, IntKind.bits] using hw
theorem open_acts {fuel : Nat} {A : Option Addr} {len cap : Nat} {x : DataW H × List MemPlace}
    (h : DataW.trod enc Try.prog w base spare held fuel 36 [.slice A len cap] = some x) :
    ∃ xs : List ActD, len ≤ cap ∧ ActsAt w w.heap.size A len xs := by
  rcases slice_fields Try.underlying36 Try.underlying40 (by kernel_rfl) (by kernel_rfl) h with h0 | ⟨a, l, c, h1, hlc, -, hj⟩
  · simp at h0
    obtain ⟨rfl, rfl, rfl⟩ := h0
    exact ⟨[], by omega, rfl, fun j hj => absurd hj (by omega)⟩
  · simp at h1
    obtain ⟨rfl, rfl, rfl⟩ := h1
    have hex : ∀ j, ∃ x : ActD, j < len → ∃ g o, a = ⟨g, o, none⟩ ∧ ActAt w w.heap.size g (o + j * 3) x := by
      intro j
      by_cases hjl : j < len
      · obtain ⟨n, hf⟩ := hj j hjl
        obtain ⟨v0, y0, e0, t0⟩ := hf 0 _ rfl
        obtain ⟨v1, y1, e1, t1⟩ := hf 1 _ rfl
        obtain ⟨v2, y2, e2, t2⟩ := hf 2 _ rfl
        obtain ⟨z0, rfl, -⟩ := int_cell t0
        obtain ⟨z1, rfl, -⟩ := int_cell t1
        obtain ⟨z2, rfl, -⟩ := errno_cell t2
        have ha' : a = ⟨a.block, a.off, none⟩ := by
          obtain ⟨n', hf'⟩ := hj 0 (by omega)
          obtain ⟨v', y', e', -⟩ := hf' 0 _ rfl
          have e2' : w.cell? (a.add 0) = some v' := e'
          rw [add_zero_] at e2'
          exact plain_of_cell e2'
        rw [ha', Rb.add_plain] at e0 e1 e2
        have hlt := World.block_lt_of_cell? w _ e0
        exact ⟨⟨z0, z1, z2⟩, fun _ => ⟨a.block, a.off, ha', e0, e1, e2, hlt⟩⟩
      · exact ⟨⟨0, 0, 0⟩, fun h => absurd h hjl⟩
    refine ⟨(List.range len).map fun j => (hex j).choose, hlc, by simp, fun j hj => ?_⟩
    obtain ⟨g, o, ha, hat⟩ := (hex j).choose_spec hj
    exact ⟨g, o, (hex j).choose, by rw [ha], by rw [List.getElem?_map, List.getElem?_range hj]; rfl, hat⟩
end

/-! ### Whatever is asked of a tree -/
section
variable {B t : Nat} {T : Nat → Prop} {w : World} {s : TS}
theorem TI.same (h : TI B T w t s) : TDid B T w t s w := ⟨h, Only.refl _ _⟩
theorem add_either (h : TI B T w t s) (i : Int) (hn : s.n < 256) :
    Calls Try.prog 10 #[pp t, .int .i64 i] w fun e w' => ∃ (x y : Int) (s' : TS), e = .returned (.tuple #[.int .i64 x, .int .i64 y]) ∧ s'.n ≤ s.n + 1 ∧ TDid B T w t s' w' := by
  by_cases hi : thereB s i
  · obtain ⟨h1, h2⟩ := hi
    obtain ⟨k, rfl⟩ := Int.eq_ofNat_of_zero_le h1
    exact (add_in h k (by omega) hn).mono fun e w' ⟨h1, h2⟩ => ⟨_, _, _, h1, by simp [addS, TS.n], h2⟩
  · exact (addbad_in h i hi).mono fun e w' ⟨h1, h2⟩ => by subst h2; exact ⟨_, _, s, h1, by omega, h.same⟩
theorem cancel_either (h : TI B T w t s) (i c : Int) :
    Calls Try.prog 9 #[pp t, .int .i64 i, .int .i64 c] w fun e w' => ∃ (x y : Int) (s' : TS), e = .returned (.tuple #[.int .i64 x, .int .i64 y]) ∧ s'.n = s.n ∧ TDid B T w t s' w' := by
  by_cases hi : thereB s i ∧ c ≠ 0
  · obtain ⟨⟨h1, h2⟩, hc⟩ := hi
    obtain ⟨k, rfl⟩ := Int.eq_ofNat_of_zero_le h1
    exact (cancel_in h k c (by omega) hc).mono fun e w' ⟨k, ca', h1, _, _, h4⟩ => ⟨_, _, s.wca ca', h1, rfl, h4⟩
  · exact (cancelbad_in h i c hi).mono fun e w' ⟨h1, h2⟩ => by subst h2; exact ⟨_, _, s, h1, rfl, h.same⟩
end
end Go.Proofs.Ytddklpphcfgooaa
