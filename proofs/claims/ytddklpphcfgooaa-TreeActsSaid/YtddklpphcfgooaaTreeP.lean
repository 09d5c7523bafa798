/-
  What lies below a node; trees that are well made; what adding and marking do to them: in plain Lean; no condition beyond those that each theorem states.
-/
import Derived.Test.YtddklpphcfgooaaTree1
namespace Go.Proofs.Ytddklpphcfgooaa

/-- The node above, as a number. -/
def upN (up : List Int) (k : Nat) : Nat := (up.getD k 0).toNat
/-- k is n or lies below n. -/
inductive Und (up : List Int) (n : Nat) : Nat → Prop
  | here : Und up n n
  | step {k : Nat} : 0 < k → k < up.length → Und up n (upN up k) → Und up n k
/-- A tree's shape. -/
structure Sh (up : List Int) (ki : List (List Nat)) : Prop where
  u0 : up.getD 0 0 = -1
  pos : 0 < up.length
  uk : ∀ k, 0 < k → k < up.length → up.getD k 0 = (upN up k : Int) ∧ upN up k < k
  kl : ki.length = up.length
  ks : ∀ i, i < up.length → ∀ k, k ∈ ki.getD i [] ↔ 0 < k ∧ k < up.length ∧ upN up k = i
/-- Whose parent has a cause has one. -/
def Cz (up ca : List Int) : Prop := ∀ k, 0 < k → k < up.length → ca.getD (upN up k) 0 ≠ 0 → ca.getD k 0 ≠ 0
structure Tr (s : TS) : Prop where
  sh : Sh s.up s.ki
  cl : s.ca.length = s.n
  cz : Cz s.up s.ca
  kb : ∀ i, (s.ki.getD i []).length < s.n

/-- The nodes of X that had no cause have the cause c. -/
structure Mk (X : Nat → Prop) (c : Int) (ca ca' : List Int) : Prop where
  len : ca'.length = ca.length
  yes : ∀ i, i < ca.length → X i → ca.getD i 0 = 0 → ca'.getD i 0 = c
  no : ∀ i, ca.getD i 0 ≠ 0 → ca'.getD i 0 = ca.getD i 0
  off : ∀ i, ¬ X i → ca'.getD i 0 = ca.getD i 0

theorem Mk.eq {X : Nat → Prop} {c : Int} {ca a b : List Int} (h : Mk X c ca a) (k : Mk X c ca b) : a = b := by
  apply List.ext_getElem?
  intro i
  by_cases hi : i < ca.length
  · have e : a.getD i 0 = b.getD i 0 := by
      by_cases hz : ca.getD i 0 = 0
      · by_cases hx : X i
        · rw [h.yes i hi hx hz, k.yes i hi hx hz]
        · rw [h.off i hx, k.off i hx]
      · rw [h.no i hz, k.no i hz]
    rw [List.getD_eq_getElem?_getD, List.getD_eq_getElem?_getD, List.getElem?_eq_getElem (by rw [h.len]; omega), List.getElem?_eq_getElem (by rw [k.len]; omega)] at e
    rw [List.getElem?_eq_getElem (by rw [h.len]; omega), List.getElem?_eq_getElem (by rw [k.len]; omega)]
    exact congrArg some e
  · rw [List.getElem?_eq_none (by rw [h.len]; omega), List.getElem?_eq_none (by rw [k.len]; omega)]

section
variable {up : List Int} {ki : List (List Nat)} {ca ca' : List Int} {n k : Nat}
theorem Und.le (h : Sh up ki) (hs : Und up n k) : n ≤ k := by
  induction hs with
  | here => exact Nat.le_refl _
  | step h1 h2 _ ih => have := (h.uk _ h1 h2).2; omega
theorem Und.lt (hn : n < up.length) (hs : Und up n k) : k < up.length := by
  cases hs with
  | here => exact hn
  | step _ h2 _ => exact h2
theorem Und.trans {m : Nat} (h1 : Und up m n) (h2 : Und up n k) : Und up m k := by
  induction h2 with
  | here => exact h1
  | step a b _ ih => exact .step a b ih
/-- Below n: below one of its kids. -/
theorem Und.kid (hs : Und up n k) (hne : k ≠ n) : ∃ j, 0 < j ∧ j < up.length ∧ upN up j = n ∧ Und up j k := by
  induction hs with
  | here => exact absurd rfl hne
  | @step k a b hsub ih =>
    by_cases hu : upN up k = n
    · exact ⟨k, a, b, hu, .here⟩
    · obtain ⟨j, h1, h2, h3, h4⟩ := ih hu
      exact ⟨j, h1, h2, h3, .step a b h4⟩
theorem sub_iff (h : Sh up ki) (hk : k < up.length) : Und up n k ↔ k = n ∨ (0 < k ∧ Und up n (upN up k)) := by
  constructor
  · intro hs
    cases hs with
    | here => exact .inl rfl
    | step a _ c => exact .inr ⟨a, c⟩
  · rintro (rfl | ⟨a, b⟩)
    · exact .here
    · exact .step a hk b
/-- With a cause at n all below have one. -/
theorem cz_sub (hz : ∀ i, Und up n i → i ≠ n → ca.getD (upN up i) 0 ≠ 0 → ca.getD i 0 ≠ 0) (hs : Und up n k) (h : Sh up ki) (hc : ca.getD n 0 ≠ 0) : ca.getD k 0 ≠ 0 := by
  induction hs with
  | here => exact hc
  | @step k a b hsub ih =>
    have := (h.uk k a b).2
    have := hsub.le h
    exact hz k (.step a b hsub) (by omega) ih
theorem mk_stop {c : Int} (hz : ∀ i, Und up n i → i ≠ n → ca.getD (upN up i) 0 ≠ 0 → ca.getD i 0 ≠ 0) (h : Sh up ki) (hc : ca.getD n 0 ≠ 0) : Mk (Und up n) c ca ca :=
  ⟨rfl, fun _ _ hs h0 => absurd h0 (cz_sub hz hs h hc), fun _ _ => rfl, fun _ _ => rfl⟩
/-- While the kids are gone through: n itself and all below the first j kids are marked. -/
def upto (up : List Int) (n : Nat) (ks : List Nat) (i : Nat) : Prop := i = n ∨ ∃ k, k ∈ ks ∧ Und up k i
theorem mk_first {c : Int} (hn : n < ca.length) (hc : ca.getD n 0 = 0) : Mk (upto up n []) c ca (ca.set n c) := by
  refine ⟨by simp, ?_, ?_, ?_⟩
  · rintro i hi (rfl | ⟨k, hk, _⟩) h0
    · rw [List.getD_eq_getElem?_getD, List.getElem?_set_self hi]; rfl
    · simp at hk
  · intro i h0
    have : n ≠ i := fun e => by subst e; exact h0 hc
    rw [List.getD_eq_getElem?_getD, List.getElem?_set_ne this, ← List.getD_eq_getElem?_getD]
  · intro i hx
    have : n ≠ i := fun e => hx (.inl e.symm)
    rw [List.getD_eq_getElem?_getD, List.getElem?_set_ne this, ← List.getD_eq_getElem?_getD]
theorem Mk.cz {c : Int} (hc0 : c ≠ 0) {ks : List Nat} (h : Sh up ki) (hn : n < up.length) (hl : ca.length = up.length) (hz : ∀ i, Und up n i → i ≠ n → ca.getD (upN up i) 0 ≠ 0 → ca.getD i 0 ≠ 0)
    (hm : Mk (upto up n ks) c ca ca') {j : Nat} (hj : j ∈ ki.getD n []) : ∀ i, Und up j i → i ≠ j → ca'.getD (upN up i) 0 ≠ 0 → ca'.getD i 0 ≠ 0 := by
  intro i hs hne hu
  obtain ⟨h1, h2, h3⟩ := (h.ks n hn j).1 hj
  have hlt := hs.lt h2
  cases hs with
  | here => exact absurd rfl hne
  | step a b hsub =>
  have hjn : Und up n j := .step h1 h2 (by rw [h3]; exact .here)
  by_cases hci : ca.getD i 0 = 0
  · by_cases hcu : ca.getD (upN up i) 0 = 0
    · by_cases hx : upto up n ks (upN up i)
      · rcases hx with hx | ⟨k, hk, hks⟩
        · have := hsub.le h; have := (h.uk j h1 h2).2; omega
        · rw [hm.yes i (by omega) (.inr ⟨k, hk, .step a b hks⟩) hci]
          exact hc0
      · rw [hm.off _ hx] at hu; exact absurd hcu hu
    · have := (h.uk i a b).2
      have := (hjn.trans hsub).le h
      exact absurd hci (hz i (hjn.trans (.step a b hsub)) (by omega) hcu)
  · rw [hm.no i hci]; exact hci
theorem mk_next {c : Int} {ks : List Nat} {j : Nat} {ca2 : List Int} (hc0 : c ≠ 0) (hm : Mk (upto up n ks) c ca ca') (hj : Mk (Und up j) c ca' ca2) : Mk (upto up n (ks ++ [j])) c ca ca2 := by
  refine ⟨hj.len.trans hm.len, ?_, ?_, ?_⟩
  · intro i hi hx h0
    by_cases hx1 : upto up n ks i
    · have := hm.yes i hi hx1 h0
      rw [hj.no i (by rw [this]; exact hc0), this]
    · rcases hx with hx | ⟨k, hk, hks⟩
      · exact absurd (.inl hx) hx1
      · rcases List.mem_append.1 hk with hk | hk
        · exact absurd (.inr ⟨k, hk, hks⟩) hx1
        · obtain rfl : k = j := by simpa using hk
          exact hj.yes i (by rw [hm.len]; exact hi) hks (by rw [hm.off i hx1]; exact h0)
  · intro i h0
    rw [hj.no i (by rw [hm.no i h0]; exact h0), hm.no i h0]
  · intro i hx
    have h1 : ¬ upto up n ks i := fun hx1 => hx (hx1.imp id fun ⟨k, hk, hs⟩ => ⟨k, List.mem_append_left _ hk, hs⟩)
    have h2 : ¬ Und up j i := fun hs => hx (.inr ⟨j, by simp, hs⟩)
    rw [hj.off i h2, hm.off i h1]
theorem mk_all {c : Int} (h : Sh up ki) (hn : n < up.length) (hm : Mk (upto up n (ki.getD n [])) c ca ca') : Mk (Und up n) c ca ca' := by
  have e : ∀ i, upto up n (ki.getD n []) i ↔ Und up n i := by
    intro i
    constructor
    · rintro (rfl | ⟨k, hk, hs⟩)
      · exact .here
      · obtain ⟨a, b, c⟩ := (h.ks n hn k).1 hk
        exact Und.trans (.step a b (by rw [c]; exact .here)) hs
    · intro hs
      by_cases hne : i = n
      · exact .inl hne
      · obtain ⟨j, a, b, c, d⟩ := hs.kid hne
        exact .inr ⟨j, (h.ks n hn j).2 ⟨a, b, c⟩, d⟩
  exact ⟨hm.len, fun i hi hx => hm.yes i hi ((e i).2 hx), hm.no, fun i hx => hm.off i (fun hy => hx ((e i).1 hy))⟩
/-- Marking keeps the law of causes. -/
theorem cz_mk {c : Int} (hc0 : c ≠ 0) (h : Sh up ki) (hl : ca.length = up.length) (hz : Cz up ca) (hm : Mk (Und up n) c ca ca') : Cz up ca' := by
  intro k h1 h2 hu
  by_cases hk : ca.getD k 0 = 0
  · by_cases hcu : ca.getD (upN up k) 0 = 0
    · by_cases hx : Und up n (upN up k)
      · rw [hm.yes k (by omega) (.step h1 h2 hx) hk]; exact hc0
      · rw [hm.off _ hx] at hu; exact absurd hcu hu
    · exact absurd hk (hz k h1 h2 hcu)
  · rw [hm.no k hk]; exact hk
end
/-- A node is added below p. -/
def addS (s : TS) (p : Nat) : TS := ⟨s.up ++ [(p : Int)], s.ca ++ [s.ca.getD p 0], s.ki.set p (s.ki.getD p [] ++ [s.n]) ++ [[]]⟩
theorem getD_snoc_lt {α : Type} {l : List α} {x d : α} {i : Nat} (h : i < l.length) : (l ++ [x]).getD i d = l.getD i d := by
  rw [List.getD_eq_getElem?_getD, List.getElem?_append_left h, ← List.getD_eq_getElem?_getD]
theorem getD_snoc_eq {α : Type} {l : List α} {x d : α} {i : Nat} (h : i = l.length) : (l ++ [x]).getD i d = x := by
  subst h
  rw [List.getD_eq_getElem?_getD, List.getElem?_append_right (Nat.le_refl _)]; simp
theorem getD_snoc_gt {α : Type} {l : List α} {x d : α} {i : Nat} (h : l.length < i) : (l ++ [x]).getD i d = d := by
  rw [List.getD_eq_getElem?_getD, List.getElem?_eq_none (by simp; omega)]; rfl
theorem getD_set {α : Type} {l : List α} {x d : α} {i p : Nat} (hp : p < l.length) : (l.set p x).getD i d = if i = p then x else l.getD i d := by
  by_cases h : i = p
  · subst h; rw [if_pos rfl, List.getD_eq_getElem?_getD, List.getElem?_set_self hp]; rfl
  · rw [if_neg h, List.getD_eq_getElem?_getD, List.getElem?_set_ne (fun e => h e.symm), ← List.getD_eq_getElem?_getD]
theorem tr_add {s : TS} {p : Nat} (h : Tr s) (hp : p < s.n) : Tr (addS s p) := by
  have hpp : p < s.up.length := hp
  have hkl := h.sh.kl
  have hcl : s.ca.length = s.up.length := h.cl
  have U : ∀ k, k < s.up.length → upN (s.up ++ [(p : Int)]) k = upN s.up k := fun k hk => by unfold upN; rw [getD_snoc_lt hk]
  have Un : upN (s.up ++ [(p : Int)]) s.up.length = p := by unfold upN; rw [getD_snoc_eq rfl]; simp
  refine ⟨⟨?_, ?_, ?_, ?_, ?_⟩, ?_, ?_, ?_⟩
  · show (s.up ++ [_]).getD 0 0 = -1
    rw [getD_snoc_lt h.sh.pos]; exact h.sh.u0
  · simp [addS]
  · intro k h1 h2
    simp only [addS, List.length_append, List.length_cons, List.length_nil] at h2 ⊢
    by_cases hk : k < s.up.length
    · rw [U k hk, getD_snoc_lt hk]; exact h.sh.uk k h1 hk
    · obtain rfl : k = s.up.length := by omega
      rw [Un, getD_snoc_eq rfl]; exact ⟨rfl, hpp⟩
  · simp [addS, hkl]
  · intro i hi k
    simp only [addS, List.length_append, List.length_cons, List.length_nil] at hi ⊢
    by_cases hil : i < s.up.length
    · rw [getD_snoc_lt (by simpa [hkl] using hil), getD_set (by omega)]
      have hks := h.sh.ks i hil k
      by_cases hip : i = p
      · subst hip
        rw [if_pos rfl, List.mem_append, hks]
        constructor
        · rintro (⟨a, b, c⟩ | hk)
          · exact ⟨a, by omega, by rw [U k b]; exact c⟩
          · obtain rfl : k = s.up.length := by simpa [TS.n] using hk
            exact ⟨h.sh.pos, by omega, Un⟩
        · rintro ⟨a, b, c⟩
          by_cases hk : k < s.up.length
          · exact .inl ⟨a, hk, by rw [← U k hk]; exact c⟩
          · right; simp only [TS.n, List.mem_singleton]; omega
      · rw [if_neg hip, hks]
        constructor
        · rintro ⟨a, b, c⟩; exact ⟨a, by omega, by rw [U k b]; exact c⟩
        · rintro ⟨a, b, c⟩
          by_cases hk : k < s.up.length
          · exact ⟨a, hk, by rw [← U k hk]; exact c⟩
          · obtain rfl : k = s.up.length := by omega
            rw [Un] at c; exact absurd c.symm hip
    · obtain rfl : i = s.up.length := by omega
      rw [getD_snoc_eq (by simp [hkl])]
      constructor
      · intro hk; simp at hk
      · rintro ⟨a, b, c⟩
        by_cases hk : k < s.up.length
        · rw [U k hk] at c; have := (h.sh.uk k a hk).2; omega
        · obtain rfl : k = s.up.length := by omega
          rw [Un] at c; omega
  · simp [addS, TS.n, hcl]
  · intro k h1 h2
    simp only [addS, List.length_append, List.length_cons, List.length_nil] at h2 ⊢
    by_cases hk : k < s.up.length
    · have := (h.sh.uk k h1 hk).2
      rw [U k hk, getD_snoc_lt (by omega), getD_snoc_lt (by omega)]; exact h.cz k h1 hk
    · obtain rfl : k = s.up.length := by omega
      rw [Un, getD_snoc_lt (by omega), getD_snoc_eq hcl.symm]; exact id
  · intro i
    have hb : ∀ j, (s.ki.getD j []).length < s.up.length := h.kb
    show (((s.ki.set p (s.ki.getD p [] ++ [s.n])) ++ [[]]).getD i []).length < (s.up ++ [(p : Int)]).length
    rw [List.length_append, List.length_singleton]
    by_cases hil : i < s.up.length
    · rw [getD_snoc_lt (by simpa [hkl] using hil), getD_set (by omega)]
      by_cases hip : i = p
      · have := hb p
        rw [if_pos hip, List.length_append, List.length_singleton]; omega
      · have := hb i
        rw [if_neg hip]; omega
    · by_cases hie : i = s.up.length
      · rw [getD_snoc_eq (by simp [hkl, hie])]; simp
      · rw [getD_snoc_gt (by simp [hkl]; omega)]; simp
def rootS : TS := ⟨[-1], [0], [[]]⟩
theorem tr_root : Tr rootS := by
  refine ⟨⟨rfl, by decide, ?_, rfl, ?_⟩, rfl, ?_, ?_⟩
  · intro k h1 h2; simp [rootS] at h2; omega
  · intro i hi k
    obtain rfl : i = 0 := by simpa [rootS] using hi
    constructor
    · intro h; simp [rootS] at h
    · rintro ⟨a, b, _⟩; simp [rootS] at b; omega
  · intro k h1 h2; simp [rootS] at h2; omega
  · intro i
    rcases Nat.eq_zero_or_pos i with rfl | hi
    · decide
    · show ([[]].getD i []).length < 1
      rw [List.getD_eq_getElem?_getD, List.getElem?_eq_none (by simp; omega)]; simp
def TS.wca (s : TS) (ca : List Int) : TS := { s with ca := ca }
theorem tr_mk {s : TS} {n : Nat} {c : Int} {ca' : List Int} (h : Tr s) (hc0 : c ≠ 0) (hm : Mk (Und s.up n) c s.ca ca') : Tr (s.wca ca') :=
  ⟨h.sh, hm.len.trans h.cl, cz_mk hc0 h.sh h.cl h.cz hm, h.kb⟩
theorem tr_czs {s : TS} {n : Nat} (h : Tr s) (hn : n < s.n) : ∀ i, Und s.up n i → i ≠ n → s.ca.getD (upN s.up i) 0 ≠ 0 → s.ca.getD i 0 ≠ 0 := by
  intro i hs hne hu
  cases hs with
  | here => exact absurd rfl hne
  | step a b _ => exact h.cz i a b hu
end Go.Proofs.Ytddklpphcfgooaa
