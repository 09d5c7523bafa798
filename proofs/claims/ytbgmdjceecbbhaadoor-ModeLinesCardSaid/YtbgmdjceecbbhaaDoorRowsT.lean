/-
  How the rows of the mode's laws, and the laid table, read as they came in; no condition beyond those that each theorem states.
-/
import Derived.Test.YtbgmdjceecbbhaaDoorMode17
import Derived.Lib.LaidTab
import Derived.ChangeShapes
import Derived.WideShapes
import Derived.LaidMore
import Derived.ProofKit
import Derived.OpenShut
import Derived.Stop.Joined
import Derived.Stop.LaidErr
import Derived.MakeChecks
namespace Go.Proofs.YtbgmdjceecbbhaaDoor
open Go.RowKit Go.Rb
section
open Go.ChangeShapes Go.WideShapes Go.ChangeAt Go.Deep
variable {H : Type} {enc : TypeId × Value → H} {w : World} {base : Nat} {spare : Nat → Bool} {held : Bool}
theorem int_cell {n : Nat} {v : Value} {y : DataW H × List MemPlace} (h : DataW.trod enc Tryd.prog w base spare held n 3 [v] = some y) : ∃ z : Int, v = .int .i64 z ∧ I64 z := by
  obtain ⟨z, hz, -, hw⟩ := DataW.trod_int Tryd.underlying3 h
  refine ⟨z, by simpa using hz, ?_⟩
  unfold I64
  simpa [Lit.wf, IntKind.min, IntKind.max, IntKind.signed, IntKind.bits] using hw
theorem st_field {t : TypeId} {fs : Array Field} {fuel : Nat} {cs : List Value} {x : DataW H × List MemPlace} (he : Tryd.prog.underlying t = some (.struct fs)) (h : DataW.trod enc Tryd.prog w base spare held fuel t cs = some x) :
    cs.length = Tryd.prog.cellsOf t ∧ ∃ n', ∀ (j : Nat) f, fs[j]? = some f → ∃ y, DataW.trod enc Tryd.prog w base spare held n' f.type ((cs.drop f.offset).take (Tryd.prog.cellsOf f.type)) = some y := by
  obtain ⟨xs, n', -, -, hl, hlen, hf⟩ := DataW.trod_struct he h
  refine ⟨hl, n', fun j f hj => ?_⟩
  have hjl : j < fs.size := (Array.getElem?_eq_some_iff.1 hj).1
  exact ⟨xs[j]'(by omega), by rw [hf j f hj, List.getElem?_eq_getElem (by omega)]⟩
theorem st_at {t : TypeId} {fs : Array Field} {fuel : Nat} {cs : List Value} {x : DataW H × List MemPlace} (he : Tryd.prog.underlying t = some (.struct fs)) (h : DataW.trod enc Tryd.prog w base spare held fuel t cs = some x)
    (j : Nat) (ft : TypeId) (o k : Nat) (hj : (fs[j]?).map (fun f => (f.type, f.offset)) = some (ft, o)) (hk : Tryd.prog.cellsOf ft = k) : ∃ n y, DataW.trod enc Tryd.prog w base spare held n ft ((cs.drop o).take k) = some y := by
  obtain ⟨-, n, hf⟩ := st_field he h
  obtain ⟨f, hf0, hf1⟩ := Option.map_eq_some_iff.1 hj
  simp only [Prod.mk.injEq] at hf1
  obtain ⟨rfl, rfl⟩ := hf1
  obtain ⟨y, hy⟩ := hf j f hf0
  exact ⟨n, y, by rw [← hk]; exact hy⟩
theorem open_hits {fuel : Nat} {A : Option Addr} {len cap : Nat} {x : DataW H × List MemPlace}
    (h : DataW.trod enc Tryd.prog w base spare held fuel 30 [.slice A len cap] = some x) :
    ∃ hs : List Ht, hs.length = len ∧ Rd w w.heap.size 2 A len (hts hs) := by
  rcases slice_fields Tryd.underlying30 Tryd.underlying47 (by kernel_rfl) (by kernel_rfl) h with h0 | ⟨a, l, c, h1, hlc, -, hj⟩
  · simp at h0
    obtain ⟨rfl, rfl, rfl⟩ := h0
    exact ⟨[], rfl, rfl, fun h => absurd h (by omega)⟩
  · simp at h1
    obtain ⟨rfl, rfl, rfl⟩ := h1
    have hex : ∀ j, ∃ x : Ht, j < len → a = ⟨a.block, a.off, none⟩ ∧ a.block < w.heap.size ∧ w.cell? ⟨a.block, a.off + j * 2, none⟩ = some (.int .i64 x.f) ∧ w.cell? ⟨a.block, a.off + (j * 2 + 1), none⟩ = some (.int .i64 x.t) := by
      intro j
      by_cases hjl : j < len
      · obtain ⟨n, hf⟩ := hj j hjl
        obtain ⟨v0, y0, e0, t0⟩ := hf 0 _ rfl
        obtain ⟨v1, y1, e1, t1⟩ := hf 1 _ rfl
        obtain ⟨z0, rfl, -⟩ := int_cell t0
        obtain ⟨z1, rfl, -⟩ := int_cell t1
        have ha' : a = ⟨a.block, a.off, none⟩ := by
          obtain ⟨n', hf'⟩ := hj 0 (by omega)
          obtain ⟨v', y', e', -⟩ := hf' 0 _ rfl
          have e2' : w.cell? (a.add 0) = some v' := e'
          rw [add_zero_] at e2'
          exact plain_of_cell e2'
        rw [ha', Rb.add_plain] at e0 e1
        have hlt := World.block_lt_of_cell? w _ e0
        exact ⟨⟨z0, z1⟩, fun _ => ⟨ha', hlt, e0, e1⟩⟩
      · exact ⟨⟨0, 0⟩, fun h => absurd h hjl⟩
    have hlen : ((List.range len).map fun j => (hex j).choose).length = len := by simp
    refine ⟨(List.range len).map fun j => (hex j).choose, hlen, by rw [hts_len, hlen], fun h0 => ?_⟩
    have hs0 := (hex 0).choose_spec h0
    refine ⟨a.block, a.off, by rw [← hs0.1], hs0.2.1, fun m hm => ?_⟩
    have hj2 : m / 2 < len := by omega
    have hs := (hex (m / 2)).choose_spec hj2
    have hg : ((List.range len).map fun j => (hex j).choose)[m / 2]'(by rw [hlen]; exact hj2) = (hex (m / 2)).choose := by simp
    have f0 := hts_get ((List.range len).map fun j => (hex j).choose) (m / 2) 0 (by rw [hlen]; exact hj2) (by decide)
    have f1 := hts_get ((List.range len).map fun j => (hex j).choose) (m / 2) 1 (by rw [hlen]; exact hj2) (by decide)
    rw [hg] at f0 f1
    rcases (by omega : m = m / 2 * 2 ∨ m = m / 2 * 2 + 1) with e | e
    · rw [e]
      have e' : m / 2 * 2 / 2 = m / 2 := by omega
      rw [hs.2.2.1]; exact f0.symm
    · rw [e]
      have e' : (m / 2 * 2 + 1) / 2 = m / 2 := by omega
      rw [hs.2.2.2]; exact f1.symm
theorem open_rows {fuel : Nat} {A : Option Addr} {len cap : Nat} {x : DataW H × List MemPlace}
    (h : DataW.trod enc Tryd.prog w base spare held fuel 38 [.slice A len cap] = some x) :
    ∃ xs : List Rw, len ≤ cap ∧ Rws w w.heap.size A len xs := by
  have cR : Tryd.prog.cellsOf 32 = 4 := by kernel_rfl
  have c31 : Tryd.prog.cellsOf 29 = 3 := by kernel_rfl
  have cI : Tryd.prog.cellsOf 3 = 1 := by kernel_rfl
  have cS : Tryd.prog.cellsOf 9 = 1 := by kernel_rfl
  have cH : Tryd.prog.cellsOf 30 = 1 := by kernel_rfl
  rcases open_slice Tryd.underlying38 h with h0 | ⟨a, l, c, m, n, D, Pl, h1, hb, hl, hm, hmm, hx, hi⟩
  · obtain ⟨h0, -⟩ := h0
    simp at h0
    obtain ⟨rfl, rfl, rfl⟩ := h0
    exact ⟨[], by omega, rfl, fun j hj => absurd hj (by simp)⟩
  · simp at h1
    obtain ⟨rfl, rfl, rfl⟩ := h1
    have hex : ∀ j, ∃ x : Rw, j < len → a = ⟨a.block, a.off, none⟩ ∧ ∃ Ah ch, RwAt w w.heap.size a.block (a.off + j * 4) x Ah ch := by
      intro j
      by_cases hjl : j < len
      · have him : j < m := by rw [hmm]; split <;> omega
        obtain ⟨cs', hc, ht'⟩ := hi j him
        rw [cR] at hc
        obtain ⟨_, hcl, hat⟩ := World.cells?_some hc
        obtain ⟨v0, v1, v2, v3, rfl⟩ : ∃ v0 v1 v2 v3, cs' = [v0, v1, v2, v3] := by
          match cs', hcl with
          | [v0, v1, v2, v3], _ => exact ⟨_, _, _, _, rfl⟩
        obtain ⟨n5, y5, t5⟩ := st_at Tryd.underlying32 ht' 0 29 0 3 rfl c31
        obtain ⟨n6, y6, t6⟩ := st_at Tryd.underlying32 ht' 1 30 3 1 rfl cH
        obtain ⟨n8, y8, t8⟩ := st_at Tryd.underlying29 t5 0 3 0 1 rfl cI
        obtain ⟨n9, y9, t9⟩ := st_at Tryd.underlying29 t5 1 3 1 1 rfl cI
        obtain ⟨n10, y10, t10⟩ := st_at Tryd.underlying29 t5 2 9 2 1 rfl cS
        obtain ⟨z4, rfl, hz4⟩ := int_cell t8
        obtain ⟨z5, rfl, -⟩ := int_cell t9
        obtain ⟨s6, hs6, -⟩ := DataW.trod_string Tryd.underlying9 t10
        obtain rfl : v2 = .string s6 := by simpa using hs6
        have t6' : DataW.trod enc Tryd.prog w base spare held n6 30 [v3] = some y6 := t6
        have hv : ∃ A' l' c', v3 = .slice A' l' c' := by
          rcases open_slice Tryd.underlying30 t6' with ⟨h0, -⟩ | ⟨a', l', c', _, _, _, _, h0, _⟩
          · exact ⟨none, 0, 0, by simpa using h0⟩
          · exact ⟨some a', l', c', by simpa using h0⟩
        obtain ⟨A', l', c', rfl⟩ := hv
        obtain ⟨hs, hhl, hhr⟩ := open_hits t6'
        have ha' : a = ⟨a.block, a.off, none⟩ := by
          have him0 : 0 < m := by omega
          obtain ⟨cs0, hc0, -⟩ := hi 0 him0
          rw [cR] at hc0
          obtain ⟨_, hcl0, hat0⟩ := World.cells?_some hc0
          have h00 := hat0 0 (by omega)
          rw [List.getElem?_eq_getElem (by omega)] at h00
          simp only [Nat.zero_mul, add_zero_] at h00
          exact plain_of_cell h00
        have key : ∀ q, q < 4 → w.cell? ⟨a.block, a.off + j * 4 + q, none⟩ = [Value.int .i64 z4, .int .i64 z5, .string s6, .slice A' l' c'][q]? := fun q hq => by
          have := hat q hq
          rw [ha', Rb.add_plain, Rb.add_plain] at this
          exact this
        have k0 := key 0 (by omega)
        have k2 := key 2 (by omega)
        have k3 := key 3 (by omega)
        rw [← mk_eta s6] at k2
        rw [← hhl] at k3 hhr
        exact ⟨⟨⟨z4, z5, s6.data.toList⟩, hs⟩, fun _ => ⟨ha', A', c', ⟨World.block_lt_of_cell? w ⟨a.block, a.off + j * 4, none⟩ k0, k0, key 1 (by omega), k2, k3, hhr, hz4⟩⟩⟩
      · exact ⟨⟨⟨0, 0, []⟩, []⟩, fun h => absurd h hjl⟩
    refine ⟨(List.range len).map fun j => (hex j).choose, hl, by simp, fun j hj => ?_⟩
    have hj' : j < len := by simpa using hj
    obtain ⟨ha, Ah, ch, hat⟩ := (hex j).choose_spec hj'
    refine ⟨a.block, a.off, Ah, ch, by rw [← ha], ?_⟩
    simpa using hat
end
/-- The laid tables. -/
abbrev laidL {H : Type} : List (String × DataW H) := [("math/bits.deBruijn32tab", Rows.laid_math_bits_deBruijn32tab), ("math/bits.deBruijn64tab", Rows.laid_math_bits_deBruijn64tab), ("internal/strconv.uint64pow10", Rows.laid_internal_strconv_uint64pow10)]
theorem tTab : (Tryd.prog.globals[0]?).map (·.type) = some 73 := by kernel_rfl
theorem tb_of_laid {W : World} (h : laidMetH Tryd.prog laidL W) : Tb W := by
  rw [MakeChecks.laidMetH_plain _ _ _ (by kernel_rfl)] at h
  exact Lib.tabIs_of_head gTab tTab Tryd.underlying73 Tryd.underlying59 (by kernel_rfl) (by kernel_rfl) h.tail.tail
theorem door_met (os : Os) (args : Array Value) : laidMetH Tryd.prog laidL ((World.doorLaid Tryd.prog 400 os).forCall (fun _ _ => 0) ⟨#[], args, []⟩).memory :=
  laidMetH_of_parts3 (fuel := 8) (laidMet_of_run' 8 (by kernel_rfl) (by kernel_rfl)) (by kernel_rfl) (by kernel_rfl)
end Go.Proofs.YtbgmdjceecbbhaaDoor
