/-
  Tokens, one behind the other: the relation, its function where it has one, and how a slice of tokens grows; no condition beyond those that each theorem states.
-/
import Derived.Test.YtgfienopijlnkaaPar15
import Derived.Test.YtgfienopijlnkaaPar1
namespace Go.Proofs.Ytgfienopijlnkaa
open Go.RowKit Go.Rb
attribute [local irreducible] Go.wpQuiet

def okTk (t : Tk) : Prop := t.kind = 0 ∨ t.kind = 2 ∨ (t.kind = 1 ∧ (t.r = 124 ∨ t.r = 40 ∨ t.r = 41 ∨ t.r = 94 ∨ t.r = 36))
/-- What token answers, as a relation PT, at the code points of which OK holds. -/
structure Lexer (PT : List Int → Tk × Nat → Prop) (OK : List Int → Prop) : Prop where
  call : ∀ (x : List Int) (A : Option Addr) (n c B : Nat) (W : World), x ≠ [] → OK x → Rd W B 1 A n (x.map iV) → B ≤ W.heap.size → n ≤ c → n ≤ 1000 → Calls Try.prog 12 #[.slice A n c] W fun e w' => ∃ p, PT x p ∧ RetTk W p e w'
  bd : ∀ x p, x ≠ [] → PT x p → p.2 ≤ x.length ∧ (p.2 ≠ 0 → okTk p.1)
  drop : ∀ x k, OK x → OK (x.drop k)
/-- The tokens from some code points on to others. -/
inductive Lex (PT : List Int → Tk × Nat → Prop) (rs : List Int) : List Tk → List Int → Prop
  | nil : Lex PT rs [] rs
  | snoc (l : List Tk) (x : List Int) (t : Tk) (k : Nat) (h : Lex PT rs l x) (hx : x ≠ []) (hp : PT x (t, k)) (hk : k ≠ 0) : Lex PT rs (l ++ [t]) (x.drop k)
theorem Lex.bd {PT OK} (hL : Lexer PT OK) {rs : List Int} {l : List Tk} {x : List Int} (h : Lex PT rs l x) : l.length + x.length ≤ rs.length ∧ (∀ t ∈ l, okTk t) ∧ (OK rs → OK x) := by
  induction h with
  | nil => exact ⟨by simp, by simp, id⟩
  | snoc l x t k h hx hp hk ih =>
    obtain ⟨h1, h2, h3⟩ := ih
    obtain ⟨h4, h5⟩ := hL.bd x _ hx hp
    refine ⟨by simp only [List.length_append, List.length_cons, List.length_nil, List.length_drop]; simp only at h4; omega, fun u hu => ?_, fun h => hL.drop _ _ (h3 h)⟩
    rcases List.mem_append.1 hu with hu | hu
    · exact h2 u hu
    · obtain rfl : u = t := by simpa using hu
      exact h5 hk
/-- The tokens, where there is one answer. -/
def lexF (T : List Int → Tk × Nat) : Nat → List Int → List Tk → Option (List Tk)
  | _, [], acc => some acc
  | 0, _, _ => none
  | f + 1, a :: x, acc => if (T (a :: x)).2 = 0 then none else lexF T f ((a :: x).drop (T (a :: x)).2) (acc ++ [(T (a :: x)).1])
theorem Lex.fn {T : List Int → Tk × Nat} {PT : List Int → Tk × Nat → Prop} (hT : ∀ x p, PT x p → p = T x) {rs : List Int} {l : List Tk} {x : List Int} (h : Lex PT rs l x) : ∀ f, lexF T (f + l.length) rs [] = lexF T f x l := by
  induction h with
  | nil => intro f; rfl
  | snoc l x t k h hx hp hk ih =>
    intro f
    have e := hT _ _ hp
    cases x with
    | nil => exact absurd rfl hx
    | cons a x =>
      rw [List.length_append, show f + (l.length + [t].length) = f + 1 + l.length by simp; omega, ih (f + 1), lexF, ← e]
      rw [if_neg hk]
theorem tks_push {w w2 w3 : World} {v v' sv : Value} {l : List Tk} {t : Tk} {svs : List Value} (hl : svs.length = l.length) (hv : Own w 43 5 v l.length (tkRow l svs)) (hs : ∀ (i : Nat) (t : Tk), l[i]? = some t → ∃ sv, svs[i]? = some sv ∧ SetV w sv t.set)
    (hb : Below w.heap.size w w2) (hg : w2.grownBy w3 v.ownBlock) (hO : Own w3 43 5 v' (l.length + 1) (tkRow l svs ++ tkCells t sv)) (hx : SetV w2 sv t.set) : TksO w3 v' (l ++ [t]) := by
  have hv2 : Own w2 43 5 v l.length (tkRow l svs) := hv.below hb fun k hk => hv.lt hk
  have key : ∀ (u : Value) (s : List (Int × Int)), SetV w2 u s → SetV w3 u s := fun u s hu => Own.grown hu hg fun k hk e => own_ne_ hu hv2 (by decide) hk e
  refine ⟨svs ++ [sv], by simp [hl], ?_, fun i u hi => ?_⟩
  · rw [tkRow_snoc _ _ hl, List.length_append]
    exact hO
  · by_cases hin : i < l.length
    · rw [List.getElem?_append_left hin] at hi
      obtain ⟨s, h1, h2⟩ := hs i u hi
      exact ⟨s, by rw [List.getElem?_append_left (by omega)]; exact h1, key _ _ (h2.below hb)⟩
    · have hi2 := (List.getElem?_eq_some_iff.1 hi).1
      obtain rfl : i = l.length := by simp at hi2; omega
      rw [List.getElem?_append_right (Nat.le_refl _)] at hi
      obtain rfl : t = u := by simpa using hi
      exact ⟨sv, by rw [List.getElem?_append_right (by omega), hl]; simp, key _ _ hx⟩
/-- What Parse answers: a tree of the tokens, or none and why. -/
def RetParse (PT : List Int → Tk × Nat → Prop) (s : ByteArray) (w : World) (e : Ending) (w' : World) : Prop :=
  Below w.heap.size w w' ∧ ((∃ rs l nd v, pts s.data.toList = some rs ∧ Lex PT rs l [] ∧ treeL (l.length + 2) l 0 0 [] [] false = some nd ∧ e = .returned (.tuple #[v, .int .i64 0]) ∧ NdV w' (fun k => w.heap.size ≤ k) v nd) ∨
    ((200 < s.size ∧ e = .returned (.tuple #[zeroNd, .int .i64 16])) ∨ (e = .returned (.tuple #[zeroNd, .int .i64 15]) ∧
      (pts s.data.toList = none ∨ ∃ rs l x, pts s.data.toList = some rs ∧ Lex PT rs l x ∧ ((∃ t, x ≠ [] ∧ PT x (t, 0)) ∨ (x = [] ∧ treeL (l.length + 2) l 0 0 [] [] false = none))))))
/-- Where there is one answer of token, there's one of Parse. -/
theorem RetParse.fn {T : List Int → Tk × Nat} {PT : List Int → Tk × Nat → Prop} (hT : ∀ x p, PT x p → p = T x) {s : ByteArray} {w w' : World} {e : Ending} (h : RetParse PT s w e w') {rs : List Int} {l : List Tk} {nd : Nd} (hs : s.size ≤ 200) (hp : pts s.data.toList = some rs)
    (hl : ∀ f, rs.length ≤ f → lexF T f rs [] = some l) (ht : treeL (l.length + 2) l 0 0 [] [] false = some nd) (hbd : ∀ l x, Lex PT rs l x → l.length + x.length ≤ rs.length) : ∃ v, e = .returned (.tuple #[v, .int .i64 0]) ∧ Below w.heap.size w w' ∧ NdV w' (fun k => w.heap.size ≤ k) v nd := by
  have key : ∀ l' x, Lex PT rs l' x → lexF T (rs.length + 1) x l' = some l := fun l' x h => by rw [← h.fn hT, hl _ (by omega)]
  obtain ⟨hb, h | h | ⟨h1, h⟩⟩ := h
  · obtain ⟨rs', l', nd', v, h1, h2, h3, h4, h5⟩ := h
    obtain rfl := Option.some.inj (h1.symm.trans hp)
    have := key _ _ h2
    rw [lexF] at this
    obtain rfl := Option.some.inj this
    obtain rfl := Option.some.inj (h3.symm.trans ht)
    exact ⟨v, h4, hb, h5⟩
  · omega
  · rcases h with h | ⟨rs', l', x, h2, h3, h4⟩
    · rw [hp] at h; simp at h
    · obtain rfl := Option.some.inj (h2.symm.trans hp)
      have hk := key _ _ h3
      rcases h4 with ⟨t, hx, h4⟩ | ⟨rfl, h4⟩
      · have e := hT _ _ h4
        cases x with
        | nil => exact absurd rfl hx
        | cons a x =>
          rw [lexF, ← e] at hk
          simp at hk
      · rw [lexF] at hk
        obtain rfl := Option.some.inj hk
        rw [h4] at ht
        simp at ht
end Go.Proofs.Ytgfienopijlnkaa
