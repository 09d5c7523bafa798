/-
  Plain facts: which records a text has; no condition beyond those that each theorem states.
-/
import Derived.Test.YthgjfdjjnkgicaaSplit1
namespace Go.Proofs.Ythgjfdjjnkgicaa
open Go.RowKit Go.Rb

structure Res where
  out : List Rc
  rest : List UInt8
  a : Nat
  n : Nat
  long : Bool
def pre (o : List Rc) (r : Res) : Res := { r with out := o ++ r.out }
theorem pre_pre (o o' : List Rc) (r : Res) : pre o (pre o' r) = pre (o ++ o') r := by simp [pre]
theorem pre_nil (r : Res) : pre [] r = r := rfl
def recs (most : Nat) : List UInt8 → List UInt8 → Nat → Nat → Res
  | [], cur, a, n => ⟨[], cur, a, n, false⟩
  | c :: t, cur, a, n =>
    if c = 10 then if most < (trimR cur).length then ⟨[], [], a, n, true⟩ else pre [⟨n, a, trimR cur⟩] (recs most t [] (a + cur.length + 1) (n + 1))
    else recs most t (cur ++ [c]) a n
theorem recs_none (most : Nat) : ∀ (x cur : List UInt8) (a n : Nat), (10 : UInt8) ∉ x → recs most x cur a n = ⟨[], cur ++ x, a, n, false⟩
  | [], cur, a, n, _ => by simp [recs]
  | c :: t, cur, a, n, h => by
    simp only [List.mem_cons, not_or] at h
    rw [recs, if_neg (fun e => h.1 e.symm), recs_none most t _ a n h.2]
    simp
theorem recs_cut (most : Nat) : ∀ (x y cur : List UInt8) (a n : Nat), (10 : UInt8) ∉ x →
    recs most (x ++ 10 :: y) cur a n = if most < (trimR (cur ++ x)).length then ⟨[], [], a, n, true⟩ else pre [⟨n, a, trimR (cur ++ x)⟩] (recs most y [] (a + (cur ++ x).length + 1) (n + 1))
  | [], y, cur, a, n, _ => by simp [recs]
  | c :: t, y, cur, a, n, h => by
    simp only [List.mem_cons, not_or] at h
    rw [List.cons_append, recs, if_neg (fun e => h.1 e.symm), recs_cut most t y _ a n h.2]
    simp
theorem recs_append (most : Nat) : ∀ (x y cur : List UInt8) (a n : Nat),
    recs most (x ++ y) cur a n = if (recs most x cur a n).long then recs most x cur a n else pre (recs most x cur a n).out (recs most y (recs most x cur a n).rest (recs most x cur a n).a (recs most x cur a n).n)
  | [], y, cur, a, n => by simp [recs, pre]
  | c :: t, y, cur, a, n => by
    rw [List.cons_append, recs, recs]
    by_cases hc : c = 10
    · rw [if_pos hc, if_pos hc]
      by_cases hl : most < (trimR cur).length
      · simp [hl]
      · rw [if_neg hl, if_neg hl, recs_append most t y]
        by_cases h2 : (recs most t [] (a + cur.length + 1) (n + 1)).long = true
        · simp [pre, h2]
        · simp [pre, h2]
    · rw [if_neg hc, if_neg hc, recs_append most t y]
theorem trimR_le (l : List UInt8) : (trimR l).length ≤ l.length := Lib.trimSuffix_le l [13]
/-- What is left has no line feed, unless it began with one. -/
theorem recs_rest (most : Nat) : ∀ (x cur : List UInt8) (a n : Nat), (10 : UInt8) ∉ cur → (10 : UInt8) ∉ (recs most x cur a n).rest
  | [], cur, a, n, h => h
  | c :: t, cur, a, n, h => by
    rw [recs]
    split
    · split
      · simp
      · exact recs_rest most t [] _ _ (by simp)
    · rename_i hc
      exact recs_rest most t _ a n (by simp [h, Ne.symm hc])
/-- Its numbers. -/
theorem recs_bd (most : Nat) : ∀ (x cur : List UInt8) (a n : Nat), (recs most x cur a n).n = n + (recs most x cur a n).out.length ∧ (recs most x cur a n).out.length ≤ x.length ∧
    (recs most x cur a n).rest.length ≤ cur.length + x.length ∧ (recs most x cur a n).a ≤ a + cur.length + x.length ∧ ((recs most x cur a n).long = false → (recs most x cur a n).a + (recs most x cur a n).rest.length = a + cur.length + x.length)
  | [], cur, a, n => by simp [recs]
  | c :: t, cur, a, n => by
    rw [recs]
    split
    · split
      · simp; omega
      · obtain ⟨h1, h2, h3, h4, h5⟩ := recs_bd most t [] (a + cur.length + 1) (n + 1)
        simp only [List.length_nil] at h3 h4 h5
        refine ⟨by simp [pre, h1]; omega, by simp [pre]; omega, by simp [pre]; omega, by simp [pre]; omega, fun h => ?_⟩
        have := h5 (by simpa [pre] using h)
        simp [pre]; omega
    · obtain ⟨h1, h2, h3, h4, h5⟩ := recs_bd most t (cur ++ [c]) a n
      simp only [List.length_append, List.length_cons, List.length_nil] at h3 h4 h5
      refine ⟨h1, by simp; omega, by simp; omega, by simp; omega, fun h => ?_⟩
      have := h5 h
      simp; omega
/-- Is it too long, already? -/
def tooLong (most : Nat) (l : List UInt8) : Bool := decide (most + 1 < l.length) || (decide (l.length = most + 1) && !(l.getD (l.length - 1) 0 == 13))
/-- What a write tells, and leaves. -/
def wrR (s : SS) (x : List UInt8) : Res := recs s.most (s.held ++ x) [] s.a s.n
def wrE (s : SS) (x : List UInt8) : Int := if s.over then 0 else if (wrR s x).long then 10 else if tooLong s.most (wrR s x).rest then 10 else 0
def wrOut (s : SS) (x : List UInt8) : List Rc := if s.over then [] else (wrR s x).out
def wrS (s : SS) (x : List UInt8) : SS := if s.over then s else if (wrR s x).long then ⟨s.most, [], (wrR s x).n, (wrR s x).a, true⟩ else if tooLong s.most (wrR s x).rest then ⟨s.most, [], (wrR s x).n, (wrR s x).a, true⟩ else ⟨s.most, (wrR s x).rest, (wrR s x).n, (wrR s x).a, false⟩
theorem idx_mk (l : List UInt8) (n j : Nat) (hn : l.length = n) (hj : j < n) (w : World) : (Instr.index 9 (.string (mk l)) (.int .i64 (j : Int))).run Try.prog w = .ok (.int .u8 ((l.getD j 0).toNat : Int)) w := by
  subst hn
  rw [run_index_string w 9 (mk l) .i64 (j : Int) Try.underlying9, dif_pos ⟨by omega, by rw [mk_size]; omega⟩]
  have : l.getD j 0 = l[j] := by rw [List.getD_eq_getElem?_getD, List.getElem?_eq_getElem hj]; rfl
  rw [this]
  rfl
end Go.Proofs.Ythgjfdjjnkgicaa
