/-
  The program of a tree as a plain function; no condition beyond those that each theorem states.
-/
import Derived.Test.YtgfienopijlnkaaJump
namespace Go.Proofs.Ytgfienopijlnkaa
open Go.RowKit Go.Rb
attribute [local irreducible] Go.wpQuiet

def iterP (f : List Ins → List Ins) : Nat → List Ins → List Ins
  | 0, ps => ps
  | k + 1, ps => iterP f k (f ps)
theorem iterP_succ (f : List Ins → List Ins) (k : Nat) : ∀ ps, iterP f (k + 1) ps = f (iterP f k ps) := by
  induction k with
  | zero => intro ps; rfl
  | succ k ih => intro ps; rw [iterP, ih (f ps)]; rfl
/-- What may be there, so many times: the program, and the splits. -/
def manyP (f : List Ins → List Ins) : Nat → List Ins → List Nat → List Ins × List Nat
  | 0, ps, ss => (ps, ss)
  | k + 1, ps, ss => manyP f k (f (splitP ps)) (ss ++ [ps.length])
def endY (q : List Ins) (ss : List Nat) : List Ins := ss.foldl (fun r s => r.modify s (setY (r.length : Int))) q
def endXY (q : List Ins) (ss : List Nat) : List Ins := ss.foldl (fun r s => (r.modify s (setX (r.length : Int))).modify s (setY (r.length : Int))) q
def starP (f : List Ins → List Ins) (ps : List Ins) : List Ins := (jumpP (ps.length : Int) (f (splitP ps))).modify ps.length (setY ((jumpP (ps.length : Int) (f (splitP ps))).length : Int))
def repP (f : List Ins → List Ins) (mn mx : Int) (ps : List Ins) : List Ins :=
  if mx < 0 then starP f (iterP f mn.toNat ps) else endY (manyP f (mx - mn).toNat (iterP f mn.toNat ps) []).1 (manyP f (mx - mn).toNat (iterP f mn.toNat ps) []).2
/-- One alternative, with a split ahead and a jump behind. -/
def oneAlt (f : List Ins → List Ins) (ps : List Ins) : List Ins := (jumpP 0 (f (splitP ps))).modify ps.length (setY ((jumpP 0 (f (splitP ps))).length : Int))
mutual
def nodeP : Nd → List Ins → List Ins
  | .mk op set mn mx kids, ps =>
    if op = 1 then ps ++ [⟨1, set, (ps.length : Int) + 1, 0⟩] else if op = 2 then ps ++ [⟨3, [], (ps.length : Int) + 1, 0⟩] else if op = 3 then ps ++ [⟨4, [], (ps.length : Int) + 1, 0⟩]
    else if op = 4 then nodesP kids ps else if op = 5 then endXY (altP kids ps []).1 (altP kids ps []).2 else if op = 6 then repP (fun q => headP kids q) mn mx ps else ps
def nodesP : List Nd → List Ins → List Ins
  | [], ps => ps
  | k :: ks, ps => nodesP ks (nodeP k ps)
def headP : List Nd → List Ins → List Ins
  | [], ps => ps
  | k :: _, ps => nodeP k ps
def altP : List Nd → List Ins → List Nat → List Ins × List Nat
  | [], ps, es => (ps, es)
  | k :: ks, ps, es => if ks.isEmpty then (nodeP k ps, es) else altP ks (oneAlt (fun q => nodeP k q) ps) (es ++ [(nodeP k (splitP ps)).length])
end
/-! ### Lengths -/
def Grows (f : List Ins → List Ins) : Prop := ∀ ps, ps.length ≤ (f ps).length
theorem iterP_grows {f : List Ins → List Ins} (hf : Grows f) : ∀ k, Grows (iterP f k)
  | 0, ps => Nat.le_refl _
  | k + 1, ps => Nat.le_trans (hf ps) (iterP_grows hf k (f ps))
theorem iterP_le {f : List Ins → List Ins} (hf : Grows f) (ps : List Ins) {i k : Nat} (h : i ≤ k) : (iterP f i ps).length ≤ (iterP f k ps).length := by
  induction h with
  | refl => exact Nat.le_refl _
  | step h ih => rw [iterP_succ]; exact Nat.le_trans ih (hf _)
theorem endY_len (ss : List Nat) : ∀ q, (endY q ss).length = q.length := by
  induction ss with
  | nil => intro q; rfl
  | cons s ss ih => intro q; rw [endY, List.foldl_cons, ← endY, ih]; simp
theorem endXY_len (ss : List Nat) : ∀ q, (endXY q ss).length = q.length := by
  induction ss with
  | nil => intro q; rfl
  | cons s ss ih => intro q; rw [endXY, List.foldl_cons, ← endXY, ih]; simp
theorem manyP_grows {f : List Ins → List Ins} (hf : Grows f) : ∀ k ps ss, ps.length ≤ (manyP f k ps ss).1.length
  | 0, ps, ss => Nat.le_refl _
  | k + 1, ps, ss => by
    rw [manyP]
    have h1 := hf (splitP ps)
    have h2 := manyP_grows hf k (f (splitP ps)) (ss ++ [ps.length])
    rw [split_len] at h1
    omega
theorem starP_len {f : List Ins → List Ins} (ps : List Ins) : (starP f ps).length = (f (splitP ps)).length + 1 := by rw [starP, List.length_modify, jump_len]
theorem oneAlt_len {f : List Ins → List Ins} (ps : List Ins) : (oneAlt f ps).length = (f (splitP ps)).length + 1 := by rw [oneAlt, List.length_modify, jump_len]
theorem repP_grows {f : List Ins → List Ins} (hf : Grows f) (mn mx : Int) : Grows (repP f mn mx) := by
  intro ps
  have h1 := iterP_grows hf mn.toNat ps
  rw [repP]
  split
  · rw [starP_len]
    have := hf (splitP (iterP f mn.toNat ps))
    rw [split_len] at this
    omega
  · rw [endY_len]
    exact Nat.le_trans h1 (manyP_grows hf _ _ _)
theorem nodesP_grows {kids : List Nd} (h : ∀ k ∈ kids, Grows (nodeP k)) : Grows (nodesP kids) := by
  induction kids with
  | nil => intro ps; exact Nat.le_refl _
  | cons k ks ih =>
    intro ps
    rw [nodesP]
    exact Nat.le_trans (h k (by simp) ps) (ih (fun k hk => h k (by simp [hk])) _)
theorem altP_grows {kids : List Nd} (h : ∀ k ∈ kids, Grows (nodeP k)) : ∀ ps es, ps.length ≤ (altP kids ps es).1.length := by
  induction kids with
  | nil => intro ps es; exact Nat.le_refl _
  | cons k ks ih =>
    intro ps es
    have hk := h k (by simp)
    rw [altP]
    split
    · exact hk ps
    · refine Nat.le_trans ?_ (ih (fun k hk => h k (by simp [hk])) _ _)
      rw [oneAlt_len]
      have := hk (splitP ps)
      rw [split_len] at this
      omega
theorem nodeP_grows {n : Nd} (hok : OkN n) : Grows (nodeP n) := by
  induction hok with
  | mk op mn mx set kids h0 h6 h5 hl hs hk ih =>
    intro ps
    rw [nodeP]
    split
    · simp
    split
    · simp
    split
    · simp
    split
    · exact nodesP_grows ih ps
    split
    · rw [endXY_len]; exact altP_grows ih ps []
    split
    · refine repP_grows ?_ mn mx ps
      intro q
      cases kids with
      | nil => exact Nat.le_refl _
      | cons k ks => exact ih k (by simp) q
    · exact Nat.le_refl _
/-- What node does. -/
def NodeC (n : Nd) : Prop := ∀ (B m : Nat) (w : World) (S : Nat → Prop) (v : Value) (ps : List Ins), Mk B w m ps → B ≤ w.heap.size → NdV w S v n → (nodeP n ps).length ≤ 4000 →
  Calls Try.prog 14 #[.pointer (some ⟨m, 0, none⟩), v] w fun e w' => e = .returned (.tuple #[]) ∧ Mk B w' m (nodeP n ps) ∧ Fr B w w'
end Go.Proofs.Ytgfienopijlnkaa
