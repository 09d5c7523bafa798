/-
  Trees as they lie in memory, and the contract of reedbedref09.one; no condition beyond those that each theorem states.
-/
import Derived.Test.YtgfienopijlnkaaPar7
namespace Go.Proofs.Ytgfienopijlnkaa
open Go.RowKit Go.Rb
attribute [local irreducible] Go.wpQuiet

theorem own_ne_ {w : World} {e1 e2 : TypeId} {s1 s2 n1 n2 k : Nat} {v1 v2 : Value} {xs ys : List Value} (h1 : Own w e1 s1 v1 n1 xs) (h2 : Own w e2 s2 v2 n2 ys) (hne : e1 ≠ e2) (hk : v1.ownBlock = some k) : v2.ownBlock ≠ some k := by
  intro hk2
  rcases h1.2 with ⟨rfl, _⟩ | ⟨g, off, cap, cur, rfl, hg, _⟩
  · simp [Value.ownBlock] at hk
  · rcases h2.2 with ⟨rfl, _⟩ | ⟨g2, off2, cap2, cur2, rfl, hg2, _⟩
    · simp [Value.ownBlock] at hk2
    · have e1 : g = k := by simpa [Value.ownBlock] using hk
      have e2 : g2 = k := by simpa [Value.ownBlock] using hk2
      subst e1 e2
      rw [hg] at hg2
      simp at hg2
      exact hne hg2.2
/-- A pattern's tree. -/
inductive Nd where
  | mk (op : Int) (set : List (Int × Int)) (mn mx : Int) (kids : List Nd)
def Nd.zero : Nd := .mk 0 [] 0 0 []
/-- The five cells of a node's value. -/
def cellsV : Value → List Value
  | .agg cs => cs.toList
  | _ => []
def ndV (op : Int) (sv : Value) (mn mx : Int) (kv : Value) : Value := .agg #[.int .i64 op, sv, .int .i64 mn, .int .i64 mx, kv]
def zeroNd : Value := ndV 0 (.slice none 0 0) 0 0 (.slice none 0 0)
/-- How a tree lies: all its blocks are in S. -/
inductive NdV (w : World) (S : Nat → Prop) : Value → Nd → Prop where
  | mk (op mn mx : Int) (set : List (Int × Int)) (kids : List Nd) (sv kv : Value) (vs : List Value)
      (hs : SetV w sv set) (hl : vs.length = kids.length)
      (hk : Own w 28 5 kv kids.length (vs.flatMap cellsV)) (hkS : ∀ k, kv.ownBlock = some k → S k)
      (hn : ∀ i, (h : i < kids.length) → NdV w S (vs.getD i undef) kids[i]) : NdV w S (ndV op sv mn mx kv) (.mk op set mn mx kids)
theorem NdV.under {w w' : World} {S : Nat → Prop} {v : Value} {n : Nd} (h : NdV w S v n) (hb : Below w.heap.size w w') : NdV w' S v n := by
  induction h with
  | mk op mn mx set kids sv kv vs h1 h3 h4 h5 _ ih => exact .mk op mn mx set kids sv kv vs (h1.below hb) h3 (h4.below hb fun k hk => h4.lt hk) h5 ih
theorem NdV.drew {w : World} {S : Nat → Prop} {v : Value} {n : Nd} (h : NdV w S v n) : NdV w.drew S v n := h.under (Below.drew (Below.refl _ w))
/-- A slice of nodes that is no part of the tree grows. -/
theorem NdV.grown {w w' : World} {S : Nat → Prop} {v pv : Value} {n : Nd} {m : Nat} {ys : List Value} (h : NdV w S v n) (hP : Own w 28 5 pv m ys) (hg : w.grownBy w' pv.ownBlock) (hs : ∀ k, S k → pv.ownBlock ≠ some k) : NdV w' S v n := by
  induction h with
  | mk op mn mx set kids sv kv vs h1 h3 h4 h5 _ ih => exact .mk op mn mx set kids sv kv vs (Own.grown h1 hg fun k hk e => own_ne_ h1 hP (by decide) hk e) h3 (h4.grown hg fun k hk => hs k (h5 k hk)) h5 ih
theorem NdV.mono {w : World} {S T : Nat → Prop} {v : Value} {n : Nd} (h : NdV w S v n) (hs : ∀ k, S k → k < w.heap.size → T k) : NdV w T v n := by
  induction h with
  | mk op mn mx set kids sv kv vs h1 h3 h4 h5 _ ih => exact .mk op mn mx set kids sv kv vs h1 h3 h4 (fun k hk => hs k (h5 k hk) (h4.lt hk)) ih
theorem NdV.zero (w : World) (S : Nat → Prop) : NdV w S zeroNd .zero :=
  .mk 0 0 0 [] [] _ _ [] (SetV.nil_ w) rfl (Own.nil_ _ _ _) (by simp [Value.ownBlock]) (fun i h => absurd h (by simp))
theorem NdV.form {w : World} {S : Nat → Prop} {v : Value} {n : Nd} (h : NdV w S v n) : ∃ a sv b c kv, v = ndV a sv b c kv := by
  cases h with
  | mk op mn mx set kids sv kv vs => exact ⟨op, sv, mn, mx, kv, rfl⟩

/-- One node, or more of them under an Op. -/
def oneV (op : Int) (lv : Value) : List Value → Value
  | [] => zeroNd
  | [v] => v
  | _ => ndV op (.slice none 0 0) 0 0 lv
set_option maxHeartbeats 400000 in
theorem one_0 (op : Int) (A : Option Addr) (c : Nat) (w : World) : Calls Try.prog 20 #[.int .i64 op, .slice A 0 c] w fun e w' => e = .returned zeroNd ∧ Below w.heap.size w w' := by
  unfold zeroNd ndV
  go_enter Try.func20, Try.ntmps20
  go_wp2_with fail
  go_returns
  exact ⟨rfl, below_al (Below.refl _ _) _⟩
set_option maxHeartbeats 400000 in
theorem one_more (op : Int) (A : Option Addr) (n c : Nat) (w : World) (hn : 2 ≤ n) : Calls Try.prog 20 #[.int .i64 op, .slice A n c] w fun e w' => e = .returned (ndV op (.slice none 0 0) 0 0 (.slice A n c)) ∧ Below w.heap.size w w' := by
  have F0 : ((n : Int) == 0) = false := by simp; omega
  have F1 : ((n : Int) == 1) = false := by simp; omega
  unfold ndV
  go_enter Try.func20, Try.ntmps20
  go_wp2_with fail
  go_returns
  exact ⟨rfl, below_al (Below.refl _ _) _⟩
set_option maxHeartbeats 400000 in
theorem one_1 (op : Int) (b off c : Nat) (w : World) (hb : b < w.heap.size) (hc : 1 ≤ c) (x0 x2 x3 : Int) (A1 A4 : Option Addr) (n1 m1 n4 m4 : Nat) (c0 : w.cell? ⟨b, off, none⟩ = some (.int .i64 x0)) (c1 : w.cell? ⟨b, off + 1, none⟩ = some (.slice A1 n1 m1)) (c2 : w.cell? ⟨b, off + 2, none⟩ = some (.int .i64 x2)) (c3 : w.cell? ⟨b, off + 3, none⟩ = some (.int .i64 x3)) (c4 : w.cell? ⟨b, off + 4, none⟩ = some (.slice A4 n4 m4)) :
    Calls Try.prog 20 #[.int .i64 op, .slice (some ⟨b, off, none⟩) 1 c] w fun e w' => e = .returned (ndV x0 (.slice A1 n1 m1) x2 x3 (.slice A4 n4 m4)) ∧ Below w.heap.size w w' := by
  unfold ndV
  go_enter Try.func20, Try.ntmps20
  go_wp2_with fail
  go_returns
  exact ⟨rfl, below_al (Below.refl _ _) _⟩
end Go.Proofs.Ytgfienopijlnkaa
