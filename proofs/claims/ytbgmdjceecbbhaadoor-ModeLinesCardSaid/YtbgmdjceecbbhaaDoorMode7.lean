/-
  What context tells: plain. And the parts of its contract that need no walk; no condition beyond those that each theorem states.
-/
import Derived.Test.YtbgmdjceecbbhaaDoorMode6
namespace Go.Proofs.YtbgmdjceecbbhaaDoor
open Go.RowKit Go.Rb
attribute [local irreducible] Go.wpQuiet

/-- What is told of one record, with the sign. -/
def recL (s : Ts) (r : Rc) (sg : UInt8) : List (List UInt8) := sepOf s r ++ [line r sg]
/-- All of a list, with the sign -. -/
def recAll : Ts → List Rc → List (List UInt8) × Ts
  | s, [] => ([], s)
  | s, x :: l => (recL s x 45 ++ (recAll (told s x) l).1, (recAll (told s x) l).2)
theorem recAll_snoc : ∀ (s : Ts) (l : List Rc) (x : Rc), recAll s (l ++ [x]) = ((recAll s l).1 ++ recL (recAll s l).2 x 45, told (recAll s l).2 x)
  | s, [], x => by simp [recAll]
  | s, y :: l, x => by
    show (recL s y 45 ++ (recAll (told s y) (l ++ [x])).1, (recAll (told s y) (l ++ [x])).2) = _
    rw [recAll_snoc (told s y) l x]
    simp [recAll, List.append_assoc]
theorem recAll_held : ∀ (s : Ts) (l : List Rc), (recAll s l).2.held = s.held
  | s, [] => rfl
  | s, x :: l => (recAll_held (told s x) l).trans rfl
theorem recAll_after : ∀ (s : Ts) (l : List Rc), (recAll s l).2.after = s.after
  | s, [] => rfl
  | s, x :: l => (recAll_after (told s x) l).trans rfl
/-- At most two lines each. -/
theorem recL_len (s : Ts) (r : Rc) (g : UInt8) : (recL s r g).length ≤ 2 := by
  unfold recL sepOf
  split <;> simp
theorem recAll_len : ∀ (s : Ts) (l : List Rc), (recAll s l).1.length ≤ 2 * l.length
  | s, [] => by simp [recAll]
  | s, x :: l => by
    have := recAll_len (told s x) l
    have := recL_len s x 45
    simp only [recAll, List.length_append, List.length_cons]
    omega
/-- The teller behind what was held: it holds none, and tells on. -/
def fresh (s : Ts) : Ts := { s with held := [], more := s.after }
def ctx (s : Ts) (r : Rc) (hit : Bool) : List (List UInt8) × Ts :=
  if hit then ((recAll s s.held).1 ++ recL (fresh (recAll s s.held).2) r 58, told (fresh (recAll s s.held).2) r)
  else if 0 < s.more then (recL { s with more := s.more - 1 } r 45, told { s with more := s.more - 1 } r)
  else if 0 < s.before then ([], { s with held := (if (s.held.length : Int) = s.before then s.held.drop 1 else s.held) ++ [r] })
  else ([], s)
theorem own_cell3 {w : World} {n c : Nat} {A : Option Addr} {l : List Rc} (h : Own w 29 3 (.slice A n c) n (rcs l)) (hl : l.length = n) (j : Nat) (hj : j < n) :
    ∃ pb po, A = some ⟨pb, po, none⟩ ∧ pb < w.heap.size ∧ w.cell? ⟨pb, po + j * 3, none⟩ = some (.int .i64 (l[j]'(by omega)).n) ∧ w.cell? ⟨pb, po + j * 3 + 1, none⟩ = some (.int .i64 (l[j]'(by omega)).a) ∧ w.cell? ⟨pb, po + j * 3 + 2, none⟩ = some (.string (mk (l[j]'(by omega)).t)) := by
  obtain ⟨pb, po, rfl, hlt, hcell⟩ := h.rd.2 (by omega)
  refine ⟨pb, po, rfl, hlt, ?_, ?_, ?_⟩
  · have := hcell (j * 3 + 0) (by omega)
    rw [rcs_get l j 0 (by omega) (by decide)] at this
    exact this
  · have := hcell (j * 3 + 1) (by omega)
    rw [rcs_get l j 1 (by omega) (by decide), ← Nat.add_assoc] at this
    exact this
  · have := hcell (j * 3 + 2) (by omega)
    rw [rcs_get l j 2 (by omega) (by decide), ← Nat.add_assoc] at this
    exact this
theorem Tr.own_ne {w : World} {p : Nat} {s : Ts} {hv : Value} (h : Tr w p s hv) : hv.ownBlock ≠ some p := own_ne_blk' h.2 h.1 (by decide)
/-- One of the plain cells is written. -/
theorem Tr.set_ {w : World} {p : Nat} {s s' : Ts} {hv hv' : Value} (h : Tr w p s hv) (i : Nat) (u : Value) (hs : (tsc s hv).setIfInBounds i u = tsc s' hv') (ho : Own (w.setCell ⟨p, i, none⟩ u) 29 3 hv' s'.held.length (rcs s'.held)) : Tr (w.setCell ⟨p, i, none⟩ u) p s' hv' :=
  ⟨by rw [← hs]; exact h.1.set_ i u, ho⟩
theorem Tr.drew {w : World} {p : Nat} {s : Ts} {hv : Value} (h : Tr w p s hv) : Tr w.drew p s hv := ⟨h.1.drew, h.2.drew⟩
theorem Tr.alloc {w : World} {p : Nat} {s : Ts} {hv : Value} (h : Tr w p s hv) (o : Obj) : Tr (w.alloc o) p s hv := ⟨h.1.alloc o, h.2.alloc o⟩
theorem Tr.below {B : Nat} {w w' : World} {p : Nat} {s : Ts} {hv : Value} (h : Tr w p s hv) (hb : Below B w w') (hB : w.heap.size ≤ B) : Tr w' p s hv :=
  ⟨h.1.below hb (by have := h.1.lt; omega), h.2.below hb (fun k hk => by have := h.2.lt hk; omega)⟩
theorem Tr.only {S : Nat → Prop} {w w' : World} {p : Nat} {s : Ts} {hv : Value} (h : Tr w p s hv) (hb : Only S w w') (hp : ¬ S p) (hk : ∀ k, hv.ownBlock = some k → ¬ S k) : Tr w' p s hv :=
  ⟨h.1.only hb hp, h.2.only hb hk⟩
end Go.Proofs.YtbgmdjceecbbhaaDoor
