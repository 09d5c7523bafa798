/-
  A slice of tokens of its own, and how it grows; the tree of tokens as a plain function; no condition beyond those that each theorem states.
-/
import Derived.Test.YtgfienopijlnkaaPar9
namespace Go.Proofs.Ytgfienopijlnkaa
open Go.RowKit Go.Rb
attribute [local irreducible] Go.wpQuiet

def tkCells (t : Tk) (sv : Value) : List Value := [.int .i64 t.kind, .int .i64 t.r, sv, .int .i64 t.mn, .int .i64 t.mx]
/-- The cells of tokens whose sets are these slices. -/
def tkRow : List Tk → List Value → List Value
  | t :: ts, sv :: svs => tkCells t sv ++ tkRow ts svs
  | _, _ => []
theorem tkRow_snoc (l : List Tk) (svs : List Value) (h : svs.length = l.length) (t : Tk) (sv : Value) : tkRow (l ++ [t]) (svs ++ [sv]) = tkRow l svs ++ tkCells t sv := by
  induction l generalizing svs with
  | nil =>
    obtain rfl : svs = [] := List.eq_nil_of_length_eq_zero (by simpa using h)
    simp [tkRow]
  | cons a l ih =>
    cases svs with
    | nil => simp at h
    | cons b svs => simp only [List.cons_append, tkRow, ih svs (by simpa using h), List.append_assoc]
theorem tkRow_at (l : List Tk) (svs : List Value) (h : svs.length = l.length) (i : Nat) (t : Tk) (sv : Value) (ht : l[i]? = some t) (hs : svs[i]? = some sv) (j : Nat) (hj : j < 5) : (tkRow l svs)[i * 5 + j]? = (tkCells t sv)[j]? := by
  induction l generalizing svs i with
  | nil => simp at ht
  | cons a l ih =>
    cases svs with
    | nil => simp at h
    | cons b svs =>
      cases i with
      | zero =>
        simp at ht hs
        subst ht hs
        rw [tkRow, Nat.zero_mul, Nat.zero_add, List.getElem?_append_left (by simpa [tkCells] using hj)]
      | succ i =>
        rw [tkRow, List.getElem?_append_right (by simp [tkCells]; omega)]
        have : (i + 1) * 5 + j - (tkCells a b).length = i * 5 + j := by simp [tkCells]; omega
        rw [this]
        exact ih svs (by simpa using h) i (by simpa using ht) (by simpa using hs)
/-- A slice of its own that holds tokens. -/
def TksO (w : World) (v : Value) (l : List Tk) : Prop := ∃ svs : List Value, svs.length = l.length ∧ Own w 43 5 v l.length (tkRow l svs) ∧ ∀ (i : Nat) (t : Tk), l[i]? = some t → ∃ sv, svs[i]? = some sv ∧ SetV w sv t.set
theorem TksO.nil_ (w : World) : TksO w (.slice none 0 0) [] := ⟨[], rfl, Own.nil_ _ _ _, fun i t h => by simp at h⟩
theorem TksO.under {w w' : World} {v : Value} {l : List Tk} (h : TksO w v l) (hb : Below w.heap.size w w') : TksO w' v l := by
  obtain ⟨svs, h1, h2, h3⟩ := h
  refine ⟨svs, h1, h2.below hb fun k hk => h2.lt hk, fun i t hi => ?_⟩
  obtain ⟨sv, e, hs⟩ := h3 i t hi
  exact ⟨sv, e, hs.below hb⟩
theorem TksO.rd {w : World} {A : Option Addr} {n c : Nat} {l : List Tk} (h : TksO w (.slice A n c) l) : TksR w A l := fun hl => by
  obtain ⟨svs, h1, h2, h3⟩ := h
  have hp : 0 < l.length := by cases l with | nil => exact absurd rfl hl | cons a l => simp
  obtain ⟨A', c', e, -, -⟩ := h2.len_
  simp only [Value.slice.injEq] at e
  obtain ⟨rfl, rfl, rfl⟩ := e
  obtain ⟨b, off, hA, hb, hc⟩ := h2.rd.2 hp
  refine ⟨b, off, hA, hb, fun i t hi => ?_⟩
  obtain ⟨sv, e, hs⟩ := h3 i t hi
  have hil : i < l.length := (List.getElem?_eq_some_iff.1 hi).1
  have key : ∀ j, j < 5 → w.cell? ⟨b, off + i * 5 + j, none⟩ = (tkCells t sv)[j]? := fun j hj => by
    rw [Nat.add_assoc, hc (i * 5 + j) (by omega), tkRow_at l svs h1 i t sv hi e j hj]
  exact ⟨sv, key 0 (by omega), key 1 (by omega), key 2 (by omega), key 3 (by omega), key 4 (by omega), hs⟩

/-! ### the tree -/
def oneN (op : Int) : List Nd → Nd
  | [] => .zero
  | [n] => n
  | l => .mk op [] 0 0 l
/-- The tree of tokens from the i-th on, at a depth, with what there is so far. -/
def treeL : Nat → List Tk → Nat → Nat → List Nd → List Nd → Bool → Option Nd
  | 0, _, _, _, _, _, _ => none
  | f + 1, l, deep, i, alts, pieces, loose =>
    match l[i]? with
    | none => some (oneN 5 (alts ++ [oneN 4 pieces]))
    | some t =>
      if t.kind = 1 ∧ t.r = 124 then treeL f l deep (i + 1) (alts ++ [oneN 4 pieces]) [] false
      else if t.kind = 2 then (if loose then (match pieces.getLast? with
        | some kid => treeL f l deep (i + 1) alts (pieces.dropLast ++ [.mk 6 [] t.mn t.mx [kid]]) false
        | none => none) else none)
      else if t.kind = 0 then treeL f l deep (i + 1) alts (pieces ++ [.mk 1 t.set 0 0 []]) true
      else if t.r = 94 then treeL f l deep (i + 1) alts (pieces ++ [.mk 2 [] 0 0 []]) false
      else if t.r = 36 then treeL f l deep (i + 1) alts (pieces ++ [.mk 3 [] 0 0 []]) false
      else if t.r = 41 then none
      else if closeF (l.drop i) 0 i < 0 then none
      else if deep + 1 > 10 then none
      else match treeL f ((l.take (closeF (l.drop i) 0 i).toNat).drop (i + 1)) (deep + 1) 0 [] [] false with
        | none => none
        | some n => treeL f l deep ((closeF (l.drop i) 0 i).toNat + 1) alts (pieces ++ [n]) true
end Go.Proofs.Ytgfienopijlnkaa
