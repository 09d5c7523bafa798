/-
  How the acts of the pipe's laws read as they came in; no condition beyond those that each theorem states.
-/
import Derived.Test.YtfndppjicneliaaSame14
import Derived.ChangeShapes
import Derived.WideShapes
namespace Go.Proofs.Ytfndppjicneliaa
open Go.RowKit Go.Rb

structure ActD where
  k : Int
  who : Int
  x : It
/-- One act at an address. -/
structure ActAt (w : World) (B g o : Nat) (a : ActD) : Prop where
  c0 : w.cell? ⟨g, o, none⟩ = some (.int .i64 a.k)
  c1 : w.cell? ⟨g, o + 1, none⟩ = some (.int .i64 a.who)
  c2 : w.cell? ⟨g, o + 2, none⟩ = some (.int .i64 a.x.n)
  c3 : w.cell? ⟨g, o + 3, none⟩ = some (.int .i64 a.x.buf)
  c4 : w.cell? ⟨g, o + 4, none⟩ = some (.int .i64 a.x.rn)
  c5 : w.cell? ⟨g, o + 5, none⟩ = some (.int .i64 a.x.ra)
  c6 : w.cell? ⟨g, o + 6, none⟩ = some (.string a.x.rt)
  c7 : w.cell? ⟨g, o + 7, none⟩ = some (.slice a.x.ha a.x.hn a.x.hc)
  c8 : w.cell? ⟨g, o + 8, none⟩ = some (.int .i64 a.x.err)
  hits : ∃ hs : List (Int × Int), hs.length = a.x.hn ∧ Rd w B 2 a.x.ha a.x.hn (hcs hs)
  lt : g < B
def ActsAt (w : World) (B : Nat) (A : Option Addr) (n : Nat) (xs : List ActD) : Prop :=
  xs.length = n ∧ ∀ j, j < n → ∃ g o a, A = some ⟨g, o, none⟩ ∧ xs[j]? = some a ∧ ActAt w B g (o + j * 9) a
theorem ActAt.below {w w' : World} {B g o : Nat} {x : ActD} (h : ActAt w B g o x) (hb : Below B w w') : ActAt w' B g o x :=
  ⟨(hb.cell (p := ⟨g, o, none⟩) h.lt).trans h.c0, (hb.cell (p := ⟨g, o + 1, none⟩) h.lt).trans h.c1, (hb.cell (p := ⟨g, o + 2, none⟩) h.lt).trans h.c2, (hb.cell (p := ⟨g, o + 3, none⟩) h.lt).trans h.c3,
    (hb.cell (p := ⟨g, o + 4, none⟩) h.lt).trans h.c4, (hb.cell (p := ⟨g, o + 5, none⟩) h.lt).trans h.c5, (hb.cell (p := ⟨g, o + 6, none⟩) h.lt).trans h.c6, (hb.cell (p := ⟨g, o + 7, none⟩) h.lt).trans h.c7, (hb.cell (p := ⟨g, o + 8, none⟩) h.lt).trans h.c8,
    by obtain ⟨hs, h1, h2⟩ := h.hits; exact ⟨hs, h1, h2.below hb⟩, h.lt⟩

section
open Go.ChangeShapes Go.WideShapes Go.ChangeAt Go.Deep
variable {H : Type} {enc : TypeId × Value → H} {w : World} {base : Nat} {spare : Nat → Bool} {held : Bool}
theorem int_cell {n : Nat} {v : Value} {y : DataW H × List MemPlace} (h : DataW.trod enc Try.prog w base spare held n 3 [v] = some y) : ∃ z : Int, v = .int .i64 z := by
  obtain ⟨z, hz, -, hw⟩ := DataW.trod_int Try.underlying3 h
  exact ⟨z, by simpa using hz⟩
theorem err_cell {n : Nat} {v : Value} {y : DataW H × List MemPlace} (h : DataW.trod enc Try.prog w base spare held n 25 [v] = some y) : ∃ z : Int, v = .int .i64 z := by
  obtain ⟨z, hz, -, hw⟩ := DataW.trod_int Try.underlying25 h
  exact ⟨z, by simpa using hz⟩
theorem st_field {t : TypeId} {fs : Array Field} {fuel : Nat} {cs : List Value} {x : DataW H × List MemPlace} (he : Try.prog.underlying t = some (.struct fs)) (h : DataW.trod enc Try.prog w base spare held fuel t cs = some x) :
    cs.length = Try.prog.cellsOf t ∧ ∃ n', ∀ (j : Nat) f, fs[j]? = some f → ∃ y, DataW.trod enc Try.prog w base spare held n' f.type ((cs.drop f.offset).take (Try.prog.cellsOf f.type)) = some y := by
  obtain ⟨xs, n', -, -, hl, hlen, hf⟩ := DataW.trod_struct he h
  refine ⟨hl, n', fun j f hj => ?_⟩
  have hjl : j < fs.size := (Array.getElem?_eq_some_iff.1 hj).1
  exact ⟨xs[j]'(by omega), by rw [hf j f hj, List.getElem?_eq_getElem (by omega)]⟩
theorem st_at {t : TypeId} {fs : Array Field} {fuel : Nat} {cs : List Value} {x : DataW H × List MemPlace} (he : Try.prog.underlying t = some (.struct fs)) (h : DataW.trod enc Try.prog w base spare held fuel t cs = some x)
    (j : Nat) (ft : TypeId) (o k : Nat) (hj : (fs[j]?).map (fun f => (f.type, f.offset)) = some (ft, o)) (hk : Try.prog.cellsOf ft = k) : ∃ n y, DataW.trod enc Try.prog w base spare held n ft ((cs.drop o).take k) = some y := by
  obtain ⟨-, n, hf⟩ := st_field he h
  obtain ⟨f, hf0, hf1⟩ := Option.map_eq_some_iff.1 hj
  simp only [Prod.mk.injEq] at hf1
  obtain ⟨rfl, rfl⟩ := hf1
  obtain ⟨y, hy⟩ := hf j f hf0
  exact ⟨n, y, by rw [← hk]; exact hy⟩
theorem open_hits {fuel : Nat} {A : Option Addr} {len cap : Nat} {x : DataW H × List MemPlace}
    (h : DataW.trod enc Try.prog w base spare held fuel 32 [.slice A len cap] = some x) :
    ∃ hs : List (Int × Int), hs.length = len ∧ Rd w w.heap.size 2 A len (hcs hs) := by
  rcases slice_fields Try.underlying32 Try.underlying73 (by kernel_rfl) (by kernel_rfl) h with h0 | ⟨a, l, c, h1, hlc, -, hj⟩
  · simp at h0
    obtain ⟨rfl, rfl, rfl⟩ := h0
    exact ⟨[], rfl, rfl, fun h => absurd h (by omega)⟩
  · simp at h1
    obtain ⟨rfl, rfl, rfl⟩ := h1
    have hex : ∀ j, ∃ x : Int × Int, j < len → a = ⟨a.block, a.off, none⟩ ∧ a.block < w.heap.size ∧ w.cell? ⟨a.block, a.off + j * 2, none⟩ = some (.int .i64 x.1) ∧ w.cell? ⟨a.block, a.off + (j * 2 + 1), none⟩ = some (.int .i64 x.2) := by
      intro j
      by_cases hjl : j < len
      · obtain ⟨n, hf⟩ := hj j hjl
        obtain ⟨v0, y0, e0, t0⟩ := hf 0 _ rfl
        obtain ⟨v1, y1, e1, t1⟩ := hf 1 _ rfl
        obtain ⟨z0, rfl⟩ := int_cell t0
        obtain ⟨z1, rfl⟩ := int_cell t1
        have ha' : a = ⟨a.block, a.off, none⟩ := by
          obtain ⟨n', hf'⟩ := hj 0 (by omega)
          obtain ⟨v', y', e', -⟩ := hf' 0 _ rfl
          have e2' : w.cell? (a.add 0) = some v' := e'
          rw [add_zero_] at e2'
          exact plain_of_cell e2'
        rw [ha', Rb.add_plain] at e0 e1
        have hlt := World.block_lt_of_cell? w _ e0
        exact ⟨⟨z0, z1⟩, fun _ => ⟨ha', hlt, e0, e1⟩⟩
      · exact ⟨⟨0, 0⟩, fun h => absurd h hjl⟩
    have hlen : ((List.range len).map fun j => (hex j).choose).length = len := by simp
    have hcl : ∀ l : List (Int × Int), (hcs l).length = l.length * 2 := fun l => by
      induction l with
      | nil => rfl
      | cons y t ih => simp only [hcs, List.flatMap_cons, List.length_append, List.length_cons, List.length_nil] at ih ⊢; omega
    refine ⟨(List.range len).map fun j => (hex j).choose, hlen, by rw [hcl, hlen], fun h0 => ?_⟩
    have hs0 := (hex 0).choose_spec h0
    refine ⟨a.block, a.off, by rw [← hs0.1], hs0.2.1, fun m hm => ?_⟩
    have hj2 : m / 2 < len := by omega
    have hs := (hex (m / 2)).choose_spec hj2
    have hg : ((List.range len).map fun j => (hex j).choose)[m / 2]'(by rw [hlen]; exact hj2) = (hex (m / 2)).choose := by simp
    obtain ⟨f0, f1⟩ := hcs_get ((List.range len).map fun j => (hex j).choose) (m / 2) (by rw [hlen]; exact hj2)
    rw [hg] at f0 f1
    rcases (by omega : m = m / 2 * 2 ∨ m = m / 2 * 2 + 1) with e | e
    · rw [e]
      have e' : m / 2 * 2 / 2 = m / 2 := by omega
      rw [hs.2.2.1]; exact f0.symm
    · rw [e]
      have e' : (m / 2 * 2 + 1) / 2 = m / 2 := by omega
      rw [hs.2.2.2]; exact f1.symm
theorem open_acts {fuel : Nat} {A : Option Addr} {len cap : Nat} {x : DataW H × List MemPlace}
    (h : DataW.trod enc Try.prog w base spare held fuel 45 [.slice A len cap] = some x) :
    ∃ xs : List ActD, len ≤ cap ∧ ActsAt w w.heap.size A len xs := by
  have c51 : Try.prog.cellsOf 51 = 9 := by kernel_rfl
  have c34 : Try.prog.cellsOf 34 = 7 := by kernel_rfl
  have c31 : Try.prog.cellsOf 31 = 3 := by kernel_rfl
  have cI : Try.prog.cellsOf 3 = 1 := by kernel_rfl
  have cE : Try.prog.cellsOf 25 = 1 := by kernel_rfl
  have cS : Try.prog.cellsOf 9 = 1 := by kernel_rfl
  have cH : Try.prog.cellsOf 32 = 1 := by kernel_rfl
  rcases open_slice Try.underlying45 h with h0 | ⟨a, l, c, m, n, D, Pl, h1, hb, hl, hm, hmm, hx, hi⟩
  · obtain ⟨h0, -⟩ := h0
    simp at h0
    obtain ⟨rfl, rfl, rfl⟩ := h0
    exact ⟨[], by omega, rfl, fun j hj => absurd hj (by omega)⟩
  · simp at h1
    obtain ⟨rfl, rfl, rfl⟩ := h1
    have hex : ∀ j, ∃ x : ActD, j < len → a = ⟨a.block, a.off, none⟩ ∧ ActAt w w.heap.size a.block (a.off + j * 9) x := by
      intro j
      by_cases hjl : j < len
      · have him : j < m := by rw [hmm]; split <;> omega
        obtain ⟨cs', hc, ht'⟩ := hi j him
        rw [c51] at hc
        obtain ⟨_, hcl, hat⟩ := World.cells?_some hc
        obtain ⟨v0, v1, v2, v3, v4, v5, v6, v7, v8, rfl⟩ : ∃ v0 v1 v2 v3 v4 v5 v6 v7 v8, cs' = [v0, v1, v2, v3, v4, v5, v6, v7, v8] := by
          match cs', hcl with
          | [v0, v1, v2, v3, v4, v5, v6, v7, v8], _ => exact ⟨_, _, _, _, _, _, _, _, _, rfl⟩
        obtain ⟨n0, y0, t0⟩ := st_at Try.underlying51 ht' 0 3 0 1 rfl cI
        obtain ⟨n1, y1, t1⟩ := st_at Try.underlying51 ht' 1 3 1 1 rfl cI
        obtain ⟨n2, y2, t2⟩ := st_at Try.underlying51 ht' 2 34 2 7 rfl c34
        obtain ⟨z0, rfl⟩ := int_cell t0
        obtain ⟨z1, rfl⟩ := int_cell t1
        obtain ⟨n3, y3, t3⟩ := st_at Try.underlying34 t2 0 3 0 1 rfl cI
        obtain ⟨n4, y4, t4⟩ := st_at Try.underlying34 t2 1 3 1 1 rfl cI
        obtain ⟨n5, y5, t5⟩ := st_at Try.underlying34 t2 2 31 2 3 rfl c31
        obtain ⟨n6, y6, t6⟩ := st_at Try.underlying34 t2 3 32 5 1 rfl cH
        obtain ⟨n7, y7, t7⟩ := st_at Try.underlying34 t2 4 25 6 1 rfl cE
        obtain ⟨z2, rfl⟩ := int_cell t3
        obtain ⟨z3, rfl⟩ := int_cell t4
        obtain ⟨z8, rfl⟩ := err_cell t7
        obtain ⟨n8, y8, t8⟩ := st_at Try.underlying31 t5 0 3 0 1 rfl cI
        obtain ⟨n9, y9, t9⟩ := st_at Try.underlying31 t5 1 3 1 1 rfl cI
        obtain ⟨n10, y10, t10⟩ := st_at Try.underlying31 t5 2 9 2 1 rfl cS
        obtain ⟨z4, rfl⟩ := int_cell t8
        obtain ⟨z5, rfl⟩ := int_cell t9
        obtain ⟨s6, hs6, -⟩ := DataW.trod_string Try.underlying9 t10
        obtain rfl : v6 = .string s6 := by simpa using hs6
        have t6' : DataW.trod enc Try.prog w base spare held n6 32 [v7] = some y6 := t6
        have hv : ∃ A' l' c', v7 = .slice A' l' c' := by
          rcases open_slice Try.underlying32 t6' with ⟨h0, -⟩ | ⟨a', l', c', _, _, _, _, h0, _⟩
          · exact ⟨none, 0, 0, by simpa using h0⟩
          · exact ⟨some a', l', c', by simpa using h0⟩
        obtain ⟨A', l', c', rfl⟩ := hv
        obtain ⟨hs, hhl, hhr⟩ := open_hits t6'
        have ha' : a = ⟨a.block, a.off, none⟩ := by
          have him0 : 0 < m := by omega
          obtain ⟨cs0, hc0, -⟩ := hi 0 him0
          rw [c51] at hc0
          obtain ⟨_, hcl0, hat0⟩ := World.cells?_some hc0
          have h00 := hat0 0 (by omega)
          rw [List.getElem?_eq_getElem (by omega)] at h00
          simp only [Nat.zero_mul, add_zero_] at h00
          exact plain_of_cell h00
        have key : ∀ q, q < 9 → w.cell? ⟨a.block, a.off + j * 9 + q, none⟩ = [Value.int .i64 z0, .int .i64 z1, .int .i64 z2, .int .i64 z3, .int .i64 z4, .int .i64 z5, .string s6, .slice A' l' c', .int .i64 z8][q]? := fun q hq => by
          have := hat q hq
          rw [ha', Rb.add_plain, Rb.add_plain] at this
          exact this
        have k0 := key 0 (by omega)
        exact ⟨⟨z0, z1, ⟨z2, z3, z4, z5, s6, A', l', c', z8⟩⟩, fun _ => ⟨ha', k0, key 1 (by omega), key 2 (by omega), key 3 (by omega), key 4 (by omega), key 5 (by omega), key 6 (by omega), key 7 (by omega), key 8 (by omega), ⟨hs, hhl, hhr⟩, World.block_lt_of_cell? w ⟨a.block, a.off + j * 9, none⟩ k0⟩⟩
      · exact ⟨⟨0, 0, It0⟩, fun h => absurd h hjl⟩
    refine ⟨(List.range len).map fun j => (hex j).choose, hl, by simp, fun j hj => ?_⟩
    obtain ⟨ha, hat⟩ := (hex j).choose_spec hj
    exact ⟨a.block, a.off, (hex j).choose, by rw [← ha], by rw [List.getElem?_map, List.getElem?_range hj]; rfl, hat⟩
end
end Go.Proofs.Ytfndppjicneliaa
