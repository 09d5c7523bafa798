/-
  A program under way: how it lies behind prog.maker, what its methods leave alone; no condition beyond those that each theorem states.
-/
import Derived.Test.YtgfienopijlnkaaPar15
import Derived.Test.YtgfienopijlnkaaLenP
import Derived.Test.YtgfienopijlnkaaClone
import Derived.Test.YtgfienopijlnkaaRegion5
namespace Go.Proofs.Ytgfienopijlnkaa
open Go.RowKit Go.Rb
attribute [local irreducible] Go.wpQuiet

structure Ins where
  op : Int
  set : List (Int × Int)
  x : Int
  y : Int
def insCells (t : Ins) (sv : Value) : List Value := [.int .i64 t.op, sv, .int .i64 t.x, .int .i64 t.y]
def insRow : List Ins → List Value → List Value
  | t :: ts, sv :: svs => insCells t sv ++ insRow ts svs
  | _, _ => []
theorem insRow_snoc (l : List Ins) (svs : List Value) (h : svs.length = l.length) (t : Ins) (sv : Value) : insRow (l ++ [t]) (svs ++ [sv]) = insRow l svs ++ insCells t sv := by
  induction l generalizing svs with
  | nil =>
    obtain rfl : svs = [] := List.eq_nil_of_length_eq_zero (by simpa using h)
    simp [insRow]
  | cons a l ih =>
    cases svs with
    | nil => simp at h
    | cons b svs => simp only [List.cons_append, insRow, ih svs (by simpa using h), List.append_assoc]
theorem insRow_len (l : List Ins) (svs : List Value) (h : svs.length = l.length) : (insRow l svs).length = l.length * 4 := by
  induction l generalizing svs with
  | nil => simp [insRow]
  | cons a l ih =>
    cases svs with
    | nil => simp at h
    | cons b svs => simp only [insRow, List.length_append, insCells, List.length_cons, List.length_nil, ih svs (by simpa using h)]; omega
def setX (v : Int) (t : Ins) : Ins := { t with x := v }
def setY (v : Int) (t : Ins) : Ins := { t with y := v }
theorem insRow_x (l : List Ins) (svs : List Value) (h : svs.length = l.length) (i : Nat) (hi : i < l.length) (v : Int) : (insRow l svs).set (i * 4 + 2) (.int .i64 v) = insRow (l.modify i (setX v)) svs := by
  induction l generalizing svs i with
  | nil => simp at hi
  | cons a l ih =>
    cases svs with
    | nil => simp at h
    | cons b svs =>
      cases i with
      | zero => simp [insRow, insCells, setX]
      | succ i =>
        have := ih svs (by simpa using h) i (by simpa using hi)
        simp only [insRow, insCells, List.modify_succ_cons]
        rw [show (i + 1) * 4 + 2 = i * 4 + 2 + 4 by omega, ← this]
        simp
theorem insRow_y (l : List Ins) (svs : List Value) (h : svs.length = l.length) (i : Nat) (hi : i < l.length) (v : Int) : (insRow l svs).set (i * 4 + 3) (.int .i64 v) = insRow (l.modify i (setY v)) svs := by
  induction l generalizing svs i with
  | nil => simp at hi
  | cons a l ih =>
    cases svs with
    | nil => simp at h
    | cons b svs =>
      cases i with
      | zero => simp [insRow, insCells, setY]
      | succ i =>
        have := ih svs (by simpa using h) i (by simpa using hi)
        simp only [insRow, insCells, List.modify_succ_cons]
        rw [show (i + 1) * 4 + 3 = i * 4 + 3 + 4 by omega, ← this]
        simp
/-- What a maker's method leaves alone: all that is below B, and all that is no instruction and no maker. -/
structure Fr (B : Nat) (w w' : World) : Prop where
  below : Below B w w'
  keep : ∀ k cs t, Blk w k t cs → t ≠ 37 → t ≠ 50 → Blk w' k t cs
theorem Fr.refl (B : Nat) (w : World) : Fr B w w := ⟨Below.refl _ _, fun _ _ _ h _ _ => h⟩
theorem Fr.size {B : Nat} {w w' : World} (h : Fr B w w') : w.heap.size ≤ w'.heap.size := h.below.size
theorem Fr.trans {B : Nat} {w w' w'' : World} (h : Fr B w w') (h' : Fr B w' w'') : Fr B w w'' := ⟨h.below.trans h'.below, fun k cs t hb h1 h2 => h'.keep k cs t (h.keep k cs t hb h1 h2) h1 h2⟩
theorem Fr.of_below {B : Nat} {w w' : World} (h : Below w.heap.size w w') (hB : B ≤ w.heap.size) : Fr B w w' := ⟨h.mono hB, fun _ _ _ hb _ _ => hb.below h hb.lt⟩
theorem Fr.of_only {B : Nat} {S : Nat → Prop} {w w' : World} (h : Only S w w') (hB : B ≤ w.heap.size) (hS : ∀ k, S k → B ≤ k ∧ ∀ t cs, Blk w k t cs → t = 37 ∨ t = 50) : Fr B w w' :=
  ⟨h.below hB fun k hk => (hS k hk).1, fun k cs t hb h1 h2 => hb.only h fun hk => (hS k hk).2 t cs hb |>.elim h1 h2⟩
theorem Own.fr {B : Nat} {w w' : World} {e : TypeId} {sz n : Nat} {v : Value} {xs : List Value} (h : Own w e sz v n xs) (hf : Fr B w w') (h1 : e ≠ 37) (h2 : e ≠ 50) : Own w' e sz v n xs := by
  refine h.keep fun k hk => ?_
  rcases h.2 with ⟨rfl, _⟩ | ⟨g, off, cap, cur, rfl, hg, _⟩
  · simp [Value.ownBlock] at hk
  · obtain rfl : g = k := by simpa [Value.ownBlock] using hk
    exact (hf.keep g cur e hg h1 h2).trans hg.symm
theorem SetV.fr {B : Nat} {w w' : World} {v : Value} {s : List (Int × Int)} (h : SetV w v s) (hf : Fr B w w') : SetV w' v s := Own.fr h hf (by decide) (by decide)
theorem NdV.fr {B : Nat} {w w' : World} {S : Nat → Prop} {v : Value} {n : Nd} (h : NdV w S v n) (hf : Fr B w w') : NdV w' S v n := by
  induction h with
  | mk op mn mx set kids sv kv vs h1 h3 h4 h5 _ ih => exact .mk op mn mx set kids sv kv vs (h1.fr hf) h3 (Own.fr h4 hf (by decide) (by decide)) h5 ih
/-- A program under way, in the maker's block m. -/
def Mk (B : Nat) (w : World) (m : Nat) (ps : List Ins) : Prop := B ≤ m ∧ ∃ (sl : Value) (svs : List Value), Blk w m 50 #[sl] ∧ (∀ k, sl.ownBlock = some k → B ≤ k) ∧ svs.length = ps.length ∧
  Own w 37 4 sl ps.length (insRow ps svs) ∧ ∀ (i : Nat) (t : Ins), ps[i]? = some t → ∃ sv, svs[i]? = some sv ∧ SetV w sv t.set
theorem Mk.under {B m : Nat} {w w' : World} {ps : List Ins} (h : Mk B w m ps) (hb : Below w.heap.size w w') : Mk B w' m ps := by
  obtain ⟨h0, sl, svs, h1, h2, h3, h4, h5⟩ := h
  refine ⟨h0, sl, svs, h1.below hb h1.lt, h2, h3, h4.below hb fun k hk => h4.lt hk, fun i t hi => ?_⟩
  obtain ⟨sv, e, hs⟩ := h5 i t hi
  exact ⟨sv, e, hs.below hb⟩
/-- A field of an instruction is told. -/
theorem Mk.put_ {B m i j : Nat} {w : World} {ps ps' : List Ins} {g off c : Nat} {svs : List Value} {u : Value} (h0 : B ≤ m) (h1 : Blk w m 50 #[.slice (some ⟨g, off, none⟩) ps.length c]) (h2 : ∀ k, (Value.slice (some ⟨g, off, none⟩) ps.length c).ownBlock = some k → B ≤ k) (h3 : svs.length = ps.length)
    (h4 : Own w 37 4 (.slice (some ⟨g, off, none⟩) ps.length c) ps.length (insRow ps svs)) (h5 : ∀ (i : Nat) (t : Ins), ps[i]? = some t → ∃ sv, svs[i]? = some sv ∧ SetV w sv t.set)
    (hj : i * 4 + j < ps.length * 4) (hrow : (insRow ps svs).set (i * 4 + j) u = insRow ps' svs) (hlen : ps'.length = ps.length) (hset : ∀ (i : Nat) (t : Ins), ps'[i]? = some t → ∃ t', ps[i]? = some t' ∧ t'.set = t.set) :
    Mk B (w.setCell ⟨g, off + (i * 4 + j), none⟩ u) m ps' := by
  have hgm : g ≠ m := fun e => own_ne_blk_ h4 h1 (by decide) (by simp [Value.ownBlock, e])
  refine ⟨h0, .slice (some ⟨g, off, none⟩) ps.length c, svs, h1.far (fun e => hgm e.symm) u, h2, by rw [h3, hlen], ?_, fun i1 t hi => ?_⟩
  · rw [hlen, ← hrow]
    exact h4.store (i * 4 + j) hj u
  · obtain ⟨t', ht', e⟩ := hset i1 t hi
    obtain ⟨sv, e1, hs⟩ := h5 i1 t' ht'
    refine ⟨sv, e1, ?_⟩
    rw [← e]
    exact Own.setCell (p := ⟨g, off + (i * 4 + j), none⟩) hs (fun hk => own_ne_ hs h4 (by decide) hk rfl) u
theorem fr_set {B g : Nat} {w : World} {cur : Array Value} {t : TypeId} (hb : Blk w g t cur) (hB : B ≤ g) (ht : t = 37 ∨ t = 50) (j : Nat) (u : Value) : Fr B w (w.setCell ⟨g, j, none⟩ u) := by
  have ho : Only (fun k => k = g) w (w.setCell ⟨g, j, none⟩ u) := (Only.refl (fun k => k = g) w).setCell (p := ⟨g, j, none⟩) (fun _ => rfl) u
  refine Fr.of_only (S := fun k => k = g) ho (Nat.le_trans hB (Nat.le_of_lt hb.lt)) ?_
  rintro k rfl
  refine ⟨hB, fun t' cs' h => ?_⟩
  unfold Blk at h hb
  rw [hb] at h
  simp only [Option.some.injEq, Obj.cells.injEq, and_true] at h
  rw [← h.2]
  exact ht
theorem modify_set {i : Nat} {l : List Ins} {f : Ins → Ins} (hf : ∀ t, (f t).set = t.set) : ∀ (k : Nat) (t : Ins), (l.modify i f)[k]? = some t → ∃ t', l[k]? = some t' ∧ t'.set = t.set := by
  intro k t h
  rw [List.getElem?_modify] at h
  cases hl : l[k]? with
  | none => rw [hl] at h; simp at h
  | some t' =>
    rw [hl] at h
    simp only [Option.map_eq_map, Option.map_some, Option.some.injEq] at h
    refine ⟨t', rfl, ?_⟩
    rw [← h]
    split
    · exact (hf t').symm
    · rfl
end Go.Proofs.Ytgfienopijlnkaa
