/-
  Plain facts: a text that comes in pieces; the first record that is too long; no condition beyond those that each theorem states.
-/
import Derived.Test.YthgjfdjjnkgicaaPlain7d
namespace Go.Proofs.Ythgjfdjjnkgicaa
open Go.RowKit Go.Rb

/-- The splitter holds what is left of the text, and what was told are its records. -/
def CI (n : Nat) (xs : List UInt8) (o : List Rc) (S : SS) : Prop :=
  S = ⟨n, (recs n xs [] 0 0).rest, (recs n xs [] 0 0).n, (recs n xs [] 0 0).a, false⟩ ∧ (recs n xs [] 0 0).long = false ∧ tooLong n (recs n xs [] 0 0).rest = false ∧ o = (recs n xs [] 0 0).out
theorem ci_new (n : Nat) : CI n [] [] ⟨n, [], 0, 0, false⟩ := ⟨rfl, rfl, by unfold tooLong recs; simp, rfl⟩
theorem CI.bd {n : Nat} {xs : List UInt8} {o : List Rc} {S : SS} (h : CI n xs o S) : S.most = n ∧ S.over = false ∧ S.held.length ≤ xs.length ∧ S.n ≤ xs.length ∧ S.a ≤ xs.length ∧ o.length ≤ xs.length := by
  obtain ⟨rfl, -, -, rfl⟩ := h
  obtain ⟨h1, h2, h3, h4, -⟩ := recs_bd n xs [] 0 0
  simp only [List.length_nil] at h3 h4
  exact ⟨rfl, rfl, by simp only; omega, by simp only; omega, by simp only; omega, h2⟩
theorem tooLong_le (n : Nat) (l : List UInt8) (h : tooLong n l = false) : l.length ≤ n + 1 := by
  unfold tooLong at h
  simp at h
  omega
theorem CI.step {n : Nat} {xs p : List UInt8} {o : List Rc} {S : SS} (h : CI n xs o S) :
    o ++ wrOut S p = (rf false n (xs ++ p)).1 ∧ wrE S p = (rf false n (xs ++ p)).2.1 ∧ (wrS S p).held.length = (rf false n (xs ++ p)).2.2 ∧ (rf false n (xs ++ p)).2.2 ≤ n + 1 ∧
    ((wrE S p = 0 ∧ CI n (xs ++ p) (o ++ wrOut S p) (wrS S p)) ∨ (wrE S p = 10 ∧ (wrS S p).over = true ∧ (wrS S p).held = [])) := by
  obtain ⟨hS, hlg, htl, ho⟩ := h
  have hnr := recs_rest n xs [] 0 0 (by simp)
  have hap := recs_append n xs p [] 0 0
  have hQ : wrR S p = recs n p (recs n xs [] 0 0).rest (recs n xs [] 0 0).a (recs n xs [] 0 0).n := by
    unfold wrR
    rw [hS]
    simp only
    rw [recs_append n (recs n xs [] 0 0).rest p [] _ _, recs_none n _ [] _ _ hnr]
    simp [pre]
  have hov : S.over = false := by rw [hS]
  have hmost : S.most = n := by rw [hS]
  have hrf : rf false n (xs ++ p) = part n (recs n (xs ++ p) [] 0 0) := rfl
  unfold wrE wrOut wrS CI
  rw [hov, hQ, hmost, hrf, hap, ho]
  generalize recs n xs [] 0 0 = R at *
  generalize recs n p R.rest R.a R.n = Q at *
  simp only [hlg, Bool.false_eq_true, if_false]
  unfold part pre
  by_cases h1 : Q.long = true
  · simp [h1]
  · simp only [h1, Bool.false_eq_true, if_false]
    by_cases h2 : tooLong n Q.rest = true
    · simp [h2]
    · simp only [h2, Bool.false_eq_true, if_false]
      have h3 := tooLong_le n Q.rest (by simpa using h2)
      simp [h3]
theorem CI.fin_ {n : Nat} {xs : List UInt8} {o : List Rc} {S : SS} (h : CI n xs o S) : (al n xs).1 = o ++ clOut S ∧ (al n xs).2 = clE S := by
  obtain ⟨hS, hlg, htl, ho⟩ := h
  unfold al fin clOut clE
  rw [hS, ho]
  generalize recs n xs [] 0 0 = R at *
  simp only [hlg, Bool.false_eq_true, if_false]
  by_cases h1 : R.rest = []
  · simp [h1]
  · simp only [h1, if_false]
    by_cases h2 : n < R.rest.length
    · simp [h2]
    · simp [h2]
theorem cl_over (S : SS) (h : S.over = true) : clOut S = [] ∧ clE S = 0 := by unfold clOut clE; simp [h]
theorem cl_len (S : SS) : (clOut S).length ≤ 1 := by
  unfold clOut; split
  · simp
  · split
    · simp
    · split <;> simp

/-- How long the j-th record is. -/
def tlen (A : List Rc) (j : Nat) : Nat := ((A[j]?).map (fun r => r.t.length)).getD 0
/-- Where the first record stands, of the first i, that is too long; -1: nowhere. -/
def FL (n : Nat) (A : List Rc) (i : Nat) (L : Int) : Prop := ((∀ j, j < i → tlen A j ≤ n) ∧ L = -1) ∨ ∃ j : Nat, j < i ∧ L = (j : Int) ∧ (∀ k, k < j → tlen A k ≤ n) ∧ n < tlen A j
theorem fl_zero (n : Nat) (A : List Rc) : FL n A 0 (-1) := .inl ⟨fun j h => by omega, rfl⟩
theorem FL.no {n : Nat} {A : List Rc} {i : Nat} {L : Int} (h : FL n A i L) (hi : ¬ n < tlen A i) : FL n A (i + 1) L := by
  rcases h with ⟨h, rfl⟩ | ⟨j, hj, rfl, h1, h2⟩
  · refine .inl ⟨fun j hj => ?_, rfl⟩
    rcases Nat.lt_or_ge j i with h3 | h3
    · exact h j h3
    · obtain rfl : j = i := by omega
      omega
  · exact .inr ⟨j, by omega, rfl, h1, h2⟩
theorem FL.first {n : Nat} {A : List Rc} {i : Nat} (h : FL n A i (-1)) (hi : n < tlen A i) : FL n A (i + 1) (i : Int) := by
  rcases h with ⟨h, -⟩ | ⟨j, hj, h0, h1, h2⟩
  · exact .inr ⟨i, by omega, rfl, h, hi⟩
  · omega
theorem FL.later {n : Nat} {A : List Rc} {i : Nat} {j : Nat} (h : FL n A i (j : Int)) : FL n A (i + 1) (j : Int) := by
  rcases h with ⟨h, h0⟩ | ⟨k, hj, h0, h1, h2⟩
  · omega
  · exact .inr ⟨k, by omega, h0, h1, h2⟩
theorem takeWhile_at (p : Rc → Bool) : ∀ (A : List Rc) (j : Nat), (∀ k r, k < j → A[k]? = some r → p r = true) → (∃ r, A[j]? = some r ∧ p r = false) → A.takeWhile p = A.take j ∧ A.all p = false
  | [], j, _, ⟨r, h, _⟩ => by simp at h
  | x :: A, 0, _, ⟨r, h, hp⟩ => by
    simp at h; subst h
    simp [hp]
  | x :: A, j + 1, h, ⟨r, hr, hp⟩ => by
    have hx := h 0 x (by omega) rfl
    obtain ⟨h1, h2⟩ := takeWhile_at p A j (fun k r hk hr => h (k + 1) r (by omega) (by simpa using hr)) ⟨r, by simpa using hr, hp⟩
    simp [hx, h1, h2]
theorem tlen_some {A : List Rc} {j : Nat} {r : Rc} (h : A[j]? = some r) : tlen A j = r.t.length := by unfold tlen; rw [h]; rfl
theorem FL.none_ {n : Nat} {A : List Rc} (h : FL n A A.length (-1)) : A.takeWhile (fun r => !decide (n < r.t.length)) = A ∧ A.all (fun r => !decide (n < r.t.length)) = true := by
  rcases h with ⟨h, -⟩ | ⟨j, hj, h0, h1, h2⟩
  · have hp : ∀ r ∈ A, (!decide (n < r.t.length)) = true := fun r hr => by
      obtain ⟨j, hj⟩ := List.getElem?_of_mem hr
      have h1 := h j (List.getElem?_eq_some_iff.1 hj).1
      rw [tlen_some hj] at h1
      simp; omega
    refine ⟨?_, by rw [List.all_eq_true]; exact hp⟩
    clear h
    induction A with
    | nil => rfl
    | cons x A ih =>
      rw [List.takeWhile_cons, if_pos (hp x (by simp)), ih (fun r hr => hp r (by simp [hr]))]
  · omega
theorem FL.some_ {n : Nat} {A : List Rc} {j : Nat} (h : FL n A A.length (j : Int)) : j < A.length ∧ A.takeWhile (fun r => !decide (n < r.t.length)) = A.take j ∧ A.all (fun r => !decide (n < r.t.length)) = false := by
  rcases h with ⟨h, h0⟩ | ⟨k, hj, h0, h1, h2⟩
  · omega
  · obtain rfl : j = k := by omega
    refine ⟨hj, takeWhile_at _ A j (fun k r hk hr => ?_) ⟨A[j], List.getElem?_eq_getElem hj, ?_⟩⟩
    · have := h1 k hk
      rw [tlen_some hr] at this
      simp; omega
    · rw [tlen_some (List.getElem?_eq_getElem hj)] at h2
      simp [h2]
theorem rcs_take : ∀ (A : List Rc) (j : Nat), rcs (A.take j) = (rcs A).take (j * 3)
  | [], j => by simp [rcs]
  | x :: A, 0 => by simp [rcs]
  | x :: A, j + 1 => by
    rw [List.take_succ_cons, show rcs (x :: A.take j) = rc x ++ rcs (A.take j) from rfl, show rcs (x :: A) = rc x ++ rcs A from rfl, rcs_take A j]
    have e : (j + 1) * 3 = (rc x).length + j * 3 := by simp [rc]; omega
    rw [e, List.take_length_add_append]
end Go.Proofs.Ythgjfdjjnkgicaa
