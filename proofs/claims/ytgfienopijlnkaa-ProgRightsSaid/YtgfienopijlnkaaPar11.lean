/-
  Slices of trees, and the contract of reedbedref09.one; no condition beyond those that each theorem states.
-/
import Derived.Test.YtgfienopijlnkaaPar10
namespace Go.Proofs.Ytgfienopijlnkaa
open Go.RowKit Go.Rb
attribute [local irreducible] Go.wpQuiet

theorem NdV.parts {w : World} {S : Nat → Prop} {v : Value} {n : Nd} (h : NdV w S v n) : ∃ a A1 n1 m1 b c A4 n4 m4, v = ndV a (.slice A1 n1 m1) b c (.slice A4 n4 m4) := by
  cases h with
  | mk op mn mx set kids sv kv vs h1 h3 h4 h5 h6 =>
    obtain ⟨A1, m1, rfl, -, -⟩ := Own.len_ h1
    obtain ⟨A4, m4, rfl, -, -⟩ := h4.len_
    exact ⟨_, _, _, _, _, _, _, _, _, rfl⟩
/-- A slice of its own that holds trees, whose blocks are in S. -/
def NdsO (w : World) (S : Nat → Prop) (v : Value) (ns : List Nd) : Prop := ∃ vs : List Value, vs.length = ns.length ∧ Own w 28 5 v ns.length (vs.flatMap cellsV) ∧ ∀ (i : Nat) (n : Nd), ns[i]? = some n → NdV w S (vs.getD i undef) n
theorem NdsO.nil_ (w : World) (S : Nat → Prop) : NdsO w S (.slice none 0 0) [] := ⟨[], rfl, Own.nil_ _ _ _, fun i n h => by simp at h⟩
theorem NdsO.under {w w' : World} {S : Nat → Prop} {v : Value} {ns : List Nd} (h : NdsO w S v ns) (hb : Below w.heap.size w w') : NdsO w' S v ns := by
  obtain ⟨vs, h1, h2, h3⟩ := h
  exact ⟨vs, h1, h2.below hb fun k hk => h2.lt hk, fun i n hi => (h3 i n hi).under hb⟩
theorem NdsO.mono {w : World} {S T : Nat → Prop} {v : Value} {ns : List Nd} (h : NdsO w S v ns) (hs : ∀ k, S k → k < w.heap.size → T k) : NdsO w T v ns := by
  obtain ⟨vs, h1, h2, h3⟩ := h
  exact ⟨vs, h1, h2, fun i n hi => (h3 i n hi).mono hs⟩
theorem NdsO.grown {w w' : World} {S : Nat → Prop} {v pv : Value} {ns : List Nd} {m : Nat} {ys : List Value} (h : NdsO w S v ns) (hP : Own w 28 5 pv m ys) (hg : w.grownBy w' pv.ownBlock) (hv : ∀ k, v.ownBlock = some k → pv.ownBlock ≠ some k) (hs : ∀ k, S k → pv.ownBlock ≠ some k) : NdsO w' S v ns := by
  obtain ⟨vs, h1, h2, h3⟩ := h
  exact ⟨vs, h1, h2.grown hg fun k hk => hv k hk, fun i n hi => (h3 i n hi).grown hP hg hs⟩
theorem NdsO.len_ {w : World} {S : Nat → Prop} {v : Value} {ns : List Nd} (h : NdsO w S v ns) : ∃ A c, v = .slice A ns.length c ∧ ns.length ≤ c := by
  obtain ⟨vs, h1, h2, h3⟩ := h
  obtain ⟨A, c, e, hc, -⟩ := h2.len_
  exact ⟨A, c, e, hc⟩
theorem one_any {w : World} {S T : Nat → Prop} {A : Option Addr} {c : Nat} {ns : List Nd} (op : Int) (h : NdsO w S (.slice A ns.length c) ns) (hS : ∀ k, S k → T k) (hT : ∀ k, (Value.slice A ns.length c).ownBlock = some k → T k) :
    Calls Try.prog 20 #[.int .i64 op, .slice A ns.length c] w fun e w' => ∃ v, e = .returned v ∧ Below w.heap.size w w' ∧ NdV w' T v (oneN op ns) := by
  match ns, h, hT with
  | [], h, _ => exact (one_0 op A c w).mono fun e w' ⟨h1, h2⟩ => ⟨_, h1, h2, NdV.zero _ _⟩
  | [n], h, _ =>
    obtain ⟨vs, h1, h2, h3⟩ := h
    obtain ⟨v, rfl⟩ : ∃ v, vs = [v] := by
      match vs, h1 with
      | [v], _ => exact ⟨v, rfl⟩
    have hn := h3 0 n rfl
    obtain ⟨a, A1, n1, m1, b, d, A4, n4, m4, rfl⟩ := hn.parts
    obtain ⟨g, off, hA, hg, hc⟩ := h2.rd.2 (by simp)
    obtain ⟨A', c', e, hcc, -⟩ := h2.len_
    simp only [Value.slice.injEq] at e
    obtain ⟨-, -, rfl⟩ := e
    subst hA
    refine (one_1 op g off c w hg (by simpa using hcc) a b d A1 A4 n1 m1 n4 m4 (hc 0 (by simp)) (hc 1 (by simp)) (hc 2 (by simp)) (hc 3 (by simp)) (hc 4 (by simp))).mono fun e w' ⟨k1, k2⟩ => ⟨_, k1, k2, ?_⟩
    exact (hn.mono fun k hk _ => hS k hk).under k2
  | n :: m :: ns, h, hT =>
    obtain ⟨vs, h1, h2, h3⟩ := h
    refine (one_more op A _ c w (by simp)).mono fun e w' ⟨k1, k2⟩ => ⟨_, k1, k2, ?_⟩
    refine NdV.under ?_ k2
    exact .mk op 0 0 [] (n :: m :: ns) _ _ vs (SetV.nil_ w) h1 h2 hT fun i hi => (h3 i _ (List.getElem?_eq_getElem hi)).mono fun k hk _ => hS k hk
end Go.Proofs.Ytgfienopijlnkaa
