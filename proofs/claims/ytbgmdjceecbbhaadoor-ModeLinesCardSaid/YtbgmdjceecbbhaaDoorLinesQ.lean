/-
  The law ModeLines, plain: what the teller tells is the document's answer, behind each record; no condition beyond those that each theorem states.
-/
import Derived.Test.YtbgmdjceecbbhaaDoorRefL5
namespace Go.Proofs.YtbgmdjceecbbhaaDoor
open Go.RowKit Go.Rb

def hsAt (l : List Rw) (i : Nat) : List Ht := match l[i]? with
  | some x => x.hs
  | none => []
def runR (l : List Rw) : Nat → Nat → List Rc
  | _, 0 => []
  | c, m + 1 => rAt l c :: runR l (c + 1) m
theorem runR_len (l : List Rw) : ∀ c m, (runR l c m).length = m
  | _, 0 => rfl
  | c, m + 1 => by simp [runR, runR_len l (c + 1) m]
theorem runR_snoc (l : List Rw) : ∀ c m, runR l c m ++ [rAt l (c + m)] = runR l c (m + 1)
  | _, 0 => rfl
  | c, m + 1 => by
    have := runR_snoc l (c + 1) m
    rw [show c + 1 + m = c + (m + 1) by omega] at this
    show rAt l c :: (runR l (c + 1) m ++ [rAt l (c + (m + 1))]) = _
    rw [this]; rfl
theorem runR_append (l : List Rw) : ∀ a c b, runR l c (a + b) = runR l c a ++ runR l (c + a) b
  | 0, c, b => by simp [runR]
  | a + 1, c, b => by
    rw [show a + 1 + b = a + b + 1 by omega]
    show rAt l c :: runR l (c + 1) (a + b) = rAt l c :: (runR l (c + 1) a ++ _)
    rw [runR_append l a (c + 1) b, show c + 1 + a = c + (a + 1) by omega]
theorem heldN_append : ∀ (a b : List Rc), heldN (a ++ b) = heldN a + heldN b
  | [], b => by simp [heldN]
  | x :: a, b => by simp [heldN, heldN_append a b]; omega
theorem heldN_more (l : List Rw) (e m q : Nat) (h1 : m ≤ q) (h2 : q ≤ e) : heldN (runR l (e - m) m) ≤ heldN (runR l (e - q) q) := by
  have : runR l (e - q) q = runR l (e - q) (q - m) ++ runR l (e - m) m := by
    have := runR_append l (q - m) (e - q) m
    rw [show q - m + m = q by omega, show e - q + (q - m) = e - m by omega] at this
    exact this
  rw [this, heldN_append]
  omega
/-- Is record j told by the first i? -/
def tI (l : List Rw) (be af i j : Nat) : Bool := toldB (l.take i) be af j
theorem hitAt_take (l : List Rw) (i j : Nat) : hitAt (l.take i) j = (decide (j < i) && hitAt l j) := by
  unfold hitAt
  rw [List.getElem?_take]
  by_cases h : j < i
  · rw [if_pos h]; simp [h]
  · rw [if_neg h]; simp [h]
theorem tI_iff (l : List Rw) (be af i j : Nat) (hj : j < i) : tI l be af i j = true ↔ hitAt l j = true ∨ (∃ k, k < j ∧ j ≤ k + af ∧ hitAt l k = true) ∨ (∃ k, j < k ∧ k < i ∧ k ≤ j + be ∧ hitAt l k = true) := by
  unfold tI
  rw [toldB_iff]
  simp only [hitAt_take, Bool.and_eq_true, decide_eq_true_eq]
  constructor
  · rintro (⟨-, h⟩ | ⟨k, h1, h2, -, h3⟩ | ⟨k, h1, h2, h3, h4⟩)
    · exact .inl h
    · exact .inr (.inl ⟨k, h1, h2, h3⟩)
    · exact .inr (.inr ⟨k, h1, h3, h2, h4⟩)
  · rintro (h | ⟨k, h1, h2, h3⟩ | ⟨k, h1, h2, h3, h4⟩)
    · exact .inl ⟨hj, h⟩
    · exact .inr (.inl ⟨k, h1, h2, by omega, h3⟩)
    · exact .inr (.inr ⟨k, h1, h3, h2, h4⟩)
theorem emitI_congr (l l' : List Rw) (t t' : Nat → Bool) : ∀ i, (∀ j, j < i → rAt l j = rAt l' j ∧ hitAt l j = hitAt l' j ∧ t j = t' j) → emitI l t i = emitI l' t' i
  | 0, _ => rfl
  | i + 1, h => by
    have ih := emitI_congr l l' t t' i (fun j hj => h j (by omega))
    obtain ⟨h1, h2, h3⟩ := h i (by omega)
    show (if t i then _ else _) = (if t' i then _ else _)
    rw [ih, h3]
    have e : emit1 l (emitI l' t' i).2 i = emit1 l' (emitI l' t' i).2 i := by
      unfold emit1
      rw [h1, h2]
      congr 1
      unfold sepN
      cases hl : (emitI l' t' i).2 with
      | none => rfl
      | some k =>
        have := emitI_last l' t' i k hl
        simp only
        rw [h1, (h k (by omega)).1]
    rw [e]
theorem emitI_take (l : List Rw) (t : Nat → Bool) (i : Nat) : emitI (l.take i) t i = emitI l t i :=
  emitI_congr _ _ _ _ i fun j hj => ⟨by unfold rAt; rw [List.getElem?_take, if_pos hj], by rw [hitAt_take]; simp [hj], rfl⟩
/-- Where none is told, nothing is emitted. -/
theorem emitI_skip (l : List Rw) (t : Nat → Bool) (c : Nat) : ∀ m, (∀ j, c ≤ j → j < c + m → t j = false) → emitI l t (c + m) = emitI l t c
  | 0, _ => rfl
  | m + 1, h => by
    rw [← Nat.add_assoc, emitI_no l t (c + m) (h (c + m) (by omega) (by omega))]
    exact emitI_skip l t c m (fun j h1 h2 => h j h1 (by omega))

/-- The teller knows which was told last. -/
def Mat (l : List Rw) (s : Ts) (la : Option Nat) : Prop := match la with
  | none => s.any = false
  | some k => s.any = true ∧ s.last = (rAt l k).n
theorem Mat.sep {l : List Rw} {s : Ts} {la : Option Nat} (h : Mat l s la) (i : Nat) : sepOf s (rAt l i) = sepN l la i := by
  unfold sepOf sepN
  cases la with
  | none => rw [show s.any = false from h]; rfl
  | some k => rw [h.1, h.2, Bool.true_and]
theorem Mat.told {l : List Rw} (s : Ts) (i : Nat) : Mat l (told s (rAt l i)) (some i) := ⟨rfl, rfl⟩
theorem Mat.same {l : List Rw} {s s' : Ts} {la : Option Nat} (h : Mat l s la) (h1 : s'.any = s.any) (h2 : s'.last = s.last) : Mat l s' la := by
  cases la with
  | none => exact h1.trans h
  | some k => exact ⟨h1.trans h.1, h2.trans h.2⟩
theorem recAll_emit (l : List Rw) (t : Nat → Bool) (s : Ts) (c : Nat) (hm : Mat l s (emitI l t c).2) : ∀ m, (∀ j, c ≤ j → j < c + m → t j = true ∧ hitAt l j = false) →
    (emitI l t (c + m)).1 = (emitI l t c).1 ++ (recAll s (runR l c m)).1 ∧ Mat l (recAll s (runR l c m)).2 (emitI l t (c + m)).2
  | 0, _ => ⟨by simp [runR, recAll], hm⟩
  | m + 1, h => by
    obtain ⟨e1, e2⟩ := recAll_emit l t s c hm m (fun j h1 h2 => h j h1 (by omega))
    obtain ⟨h1, h2⟩ := h (c + m) (by omega) (by omega)
    rw [← Nat.add_assoc, emitI_yes l t (c + m) h1, ← runR_snoc, recAll_snoc]
    refine ⟨?_, Mat.told _ _⟩
    simp only
    rw [e1, List.append_assoc]
    congr 2
    unfold recL emit1
    rw [e2.sep, h2]
    rfl

/-- What is known of the teller by context behind i records. -/
structure KL (l : List Rw) (be af i : Nat) (s : Ts) (m u : Nat) : Prop where
  ht : s.tell = 3
  ho : s.over = false
  hb : s.before = be
  ha : s.after = af
  he : s.enough = false
  e1 : s.records = 0
  e2 : s.hits = 0
  mo : ((∀ j, j < i → hitAt l j = false) ∧ s.more = 0 ∧ u = i) ∨ (∃ h, h < i ∧ hitAt l h = true ∧ (∀ j, h < j → j < i → hitAt l j = false) ∧ s.more = ((af - (i - 1 - h) : Nat) : Int) ∧ u = (i - 1 - h) - af)
  hm : m = min be u
  hu : u ≤ i
  hh : s.held = runR l (i - m) m
  la : Mat l s (emitI l (tI l be af i) i).2
theorem KL.begin_ (l : List Rw) (be af : Nat) : KL l be af 0 (new_ 3 be af) 0 0 :=
  ⟨rfl, rfl, rfl, rfl, rfl, rfl, rfl, .inl ⟨fun j hj => by omega, rfl, rfl⟩, by simp, by omega, rfl, rfl⟩
/-- The trailing ones are not told. -/
theorem KL.tail {l : List Rw} {be af i : Nat} {s : Ts} {m u : Nat} (h : KL l be af i s m u) (j : Nat) (h1 : i - u ≤ j) (h2 : j < i) : tI l be af i j = false := by
  cases ht : tI l be af i j with
  | false => rfl
  | true =>
    exfalso
    rcases h.mo with ⟨hn, -, rfl⟩ | ⟨hp, hlt, hhit, hn, -, hu⟩
    · rcases (tI_iff l be af _ j h2).1 ht with g | ⟨k, g1, g2, g3⟩ | ⟨k, g1, g2, g3, g4⟩
      · rw [hn j h2] at g; cases g
      · rw [hn k (by omega)] at g3; cases g3
      · rw [hn k g2] at g4; cases g4
    · have hnk : ∀ k, k < i → hitAt l k = true → k ≤ hp := fun k g1 g2 => by
        rcases Nat.lt_or_ge hp k with g | g
        · rw [hn k g g1] at g2; cases g2
        · exact g
      rcases (tI_iff l be af _ j h2).1 ht with g | ⟨k, g1, g2, g3⟩ | ⟨k, g1, g2, g3, g4⟩
      · have := hnk j h2 g; omega
      · have := hnk k (by omega) g3; omega
      · have := hnk k g2 g4; omega
/-- Those ahead that lie near are told. -/
theorem KL.ahead {l : List Rw} {be af i : Nat} {s : Ts} {m u : Nat} (h : KL l be af i s m u) (j : Nat) (h1 : j < i - u) (h2 : i ≤ j + be) : tI l be af i j = true := by
  refine (tI_iff l be af i j (by omega)).2 ?_
  rcases h.mo with ⟨-, -, rfl⟩ | ⟨hp, hlt, hhit, hn, -, hu⟩
  · omega
  · rcases Nat.lt_trichotomy j hp with g | g | g
    · exact .inr (.inr ⟨hp, g, hlt, by omega, hhit⟩)
    · subst g; exact .inl hhit
    · exact .inr (.inl ⟨hp, g, by omega, hhit⟩)
theorem KL.step_no {l : List Rw} {be af i : Nat} {s : Ts} {m u : Nat} (h : KL l be af i s m u) (hx : hitAt l i = false) :
    ∃ m' u', (emitI l (tI l be af (i + 1)) (i + 1)).1 = (emitI l (tI l be af i) i).1 ++ (ctx s (rAt l i) false).1 ∧ KL l be af (i + 1) (ctx s (rAt l i) false).2 m' u' := by
  have hsame : emitI l (tI l be af (i + 1)) i = emitI l (tI l be af i) i := emitI_congr _ _ _ _ i fun j hj => ⟨rfl, rfl, by
    rw [Bool.eq_iff_iff, tI_iff l be af (i + 1) j (by omega), tI_iff l be af i j hj]
    constructor
    · rintro (g | g | ⟨k, g1, g2, g3, g4⟩)
      · exact .inl g
      · exact .inr (.inl g)
      · refine .inr (.inr ⟨k, g1, ?_, g3, g4⟩)
        rcases (by omega : k < i ∨ k = i) with e | e
        · exact e
        · subst e; rw [hx] at g4; cases g4
    · rintro (g | g | ⟨k, g1, g2, g3, g4⟩)
      · exact .inl g
      · exact .inr (.inl g)
      · exact .inr (.inr ⟨k, g1, by omega, g3, g4⟩)⟩
  have hti : tI l be af (i + 1) i = true ↔ 0 < s.more := by
    rw [tI_iff l be af (i + 1) i (by omega)]
    rcases h.mo with ⟨hn, hm, hu⟩ | ⟨hp, hlt, hhit, hn, hm, hu⟩
    · constructor
      · rintro (g | ⟨k, g1, g2, g3⟩ | ⟨k, g1, g2, g3, g4⟩)
        · rw [hx] at g; cases g
        · rw [hn k g1] at g3; cases g3
        · omega
      · intro g; omega
    · constructor
      · rintro (g | ⟨k, g1, g2, g3⟩ | ⟨k, g1, g2, g3, g4⟩)
        · rw [hx] at g; cases g
        · have : k ≤ hp := by
            rcases Nat.lt_or_ge hp k with e | e
            · rw [hn k e g1] at g3; cases g3
            · exact e
          omega
        · omega
      · intro g
        exact .inr (.inl ⟨hp, hlt, by omega, hhit⟩)
  obtain ⟨ht, ho, hb, ha, he, e1, e2, mo, hm, hu, hh, la⟩ := h
  by_cases h1 : 0 < s.more
  · have hy := hti.2 h1
    have hu0 : u = 0 := by rcases mo with ⟨-, g, -⟩ | ⟨hp, g1, -, -, g2, g3⟩ <;> omega
    have hm0 : m = 0 := by omega
    subst hm0; subst hu0
    have e : ctx s (rAt l i) false = (recL { s with more := s.more - 1 } (rAt l i) 45, told { s with more := s.more - 1 } (rAt l i)) := by
      unfold ctx; rw [if_neg (by decide), if_pos h1]
    rw [e, emitI_yes l _ i hy, hsame]
    refine ⟨0, 0, ?_, ht, ho, hb, ha, he, e1, e2, ?_, by simp, by omega, by show s.held = _; rw [hh]; rfl, ?_⟩
    · simp only
      congr 1
      unfold recL emit1
      have := (la.same (s' := { s with more := s.more - 1 }) rfl rfl).sep i
      rw [this, hx]; rfl
    · rcases mo with ⟨-, g, -⟩ | ⟨hp, g1, g2, g3, g4, g5⟩
      · omega
      · refine .inr ⟨hp, by omega, g2, fun j q1 q2 => ?_, ?_, by omega⟩
        · rcases (by omega : j < i ∨ j = i) with q | q
          · exact g3 j q1 q
          · subst q; exact hx
        · show s.more - 1 = _
          omega
    · rw [emitI_yes l _ i hy]; exact Mat.told _ _
  · have hy : tI l be af (i + 1) i = false := by
      cases hb : tI l be af (i + 1) i with
      | false => rfl
      | true => exact absurd (hti.1 hb) h1
    have he' : emitI l (tI l be af (i + 1)) (i + 1) = emitI l (tI l be af i) i := by rw [emitI_no l _ i hy, hsame]
    have mo' : ((∀ j, j < i + 1 → hitAt l j = false) ∧ s.more = 0 ∧ u + 1 = i + 1) ∨ (∃ h, h < i + 1 ∧ hitAt l h = true ∧ (∀ j, h < j → j < i + 1 → hitAt l j = false) ∧ s.more = ((af - (i + 1 - 1 - h) : Nat) : Int) ∧ u + 1 = (i + 1 - 1 - h) - af) := by
      rcases mo with ⟨g1, g2, g3⟩ | ⟨hp, g1, g2, g3, g4, g5⟩
      · refine .inl ⟨fun j q => ?_, g2, by omega⟩
        rcases (by omega : j < i ∨ j = i) with e | e
        · exact g1 j e
        · subst e; exact hx
      · refine .inr ⟨hp, by omega, g2, fun j q1 q2 => ?_, by omega, by omega⟩
        rcases (by omega : j < i ∨ j = i) with q | q
        · exact g3 j q1 q
        · subst q; exact hx
    have MO := Lib.hid mo'
    clear mo' mo
    by_cases h2 : 0 < s.before
    · by_cases h3 : (s.held.length : Int) = s.before
      · have hml : m = be := by rw [hh, runR_len] at h3; omega
        obtain ⟨m1, rfl⟩ : ∃ m1, m = m1 + 1 := ⟨m - 1, by omega⟩
        have e : ctx s (rAt l i) false = ([], { s with held := runR l (i + 1 - (m1 + 1)) (m1 + 1) }) := by
          unfold ctx
          rw [if_neg (by decide), if_neg h1, if_pos h2, if_pos h3, hh]
          have := runR_snoc l (i - (m1 + 1) + 1) m1
          rw [show i - (m1 + 1) + 1 + m1 = i by omega] at this
          show ([], { s with held := runR l (i - (m1 + 1) + 1) m1 ++ [rAt l i] }) = _
          rw [this, show i + 1 - (m1 + 1) = i - (m1 + 1) + 1 by omega]
        rw [e]
        exact ⟨m1 + 1, u + 1, by rw [he']; simp, ht, ho, hb, ha, he, e1, e2, MO.out, by omega, by omega, rfl, by rw [he']; exact la.same rfl rfl⟩
      · have hml : m ≠ be := by rw [hh, runR_len] at h3; omega
        have e : ctx s (rAt l i) false = ([], { s with held := runR l (i + 1 - (m + 1)) (m + 1) }) := by
          unfold ctx
          rw [if_neg (by decide), if_neg h1, if_pos h2, if_neg h3, hh]
          have := runR_snoc l (i - m) m
          rw [show i - m + m = i by omega] at this
          rw [this, show i + 1 - (m + 1) = i - m by omega]
        rw [e]
        exact ⟨m + 1, u + 1, by rw [he']; simp, ht, ho, hb, ha, he, e1, e2, MO.out, by omega, by omega, rfl, by rw [he']; exact la.same rfl rfl⟩
    · have hmz : m = 0 := by omega
      subst hmz
      have e : ctx s (rAt l i) false = ([], s) := by unfold ctx; rw [if_neg (by decide), if_neg h1, if_neg h2]
      rw [e]
      exact ⟨0, u + 1, by rw [he']; simp, ht, ho, hb, ha, he, e1, e2, MO.out, by omega, by omega, by rw [hh]; rfl, by rw [he']; exact la⟩
theorem KL.step_yes {l : List Rw} {be af i : Nat} {s : Ts} {m u : Nat} (h : KL l be af i s m u) (hx : hitAt l i = true) :
    (emitI l (tI l be af (i + 1)) (i + 1)).1 = (emitI l (tI l be af i) i).1 ++ (ctx s (rAt l i) true).1 ∧ KL l be af (i + 1) (ctx s (rAt l i) true).2 0 0 := by
  have hmu : m ≤ u := by have := h.hm; omega
  have hmi : m ≤ i := by have := h.hu; omega
  have htail := h.tail
  have hahead := h.ahead
  have hsame : emitI l (tI l be af (i + 1)) (i - m) = emitI l (tI l be af i) (i - m) := emitI_congr _ _ _ _ _ fun j hj => ⟨rfl, rfl, by
    rw [Bool.eq_iff_iff, tI_iff l be af (i + 1) j (by omega)]
    constructor
    · rintro (g | g | ⟨k, g1, g2, g3, g4⟩)
      · exact (tI_iff l be af i j (by omega)).2 (.inl g)
      · exact (tI_iff l be af i j (by omega)).2 (.inr (.inl g))
      · rcases (by omega : k < i ∨ k = i) with e | e
        · exact (tI_iff l be af i j (by omega)).2 (.inr (.inr ⟨k, g1, e, g3, g4⟩))
        · subst e
          exact hahead j (by have := h.hm; omega) g3
    · intro g
      rcases (tI_iff l be af i j (by omega)).1 g with g | g | ⟨k, g1, g2, g3, g4⟩
      · exact .inl g
      · exact .inr (.inl g)
      · exact .inr (.inr ⟨k, g1, by omega, g3, g4⟩)⟩
  have hskip : emitI l (tI l be af i) i = emitI l (tI l be af i) (i - m) := by
    have := emitI_skip l (tI l be af i) (i - m) m (fun j g1 g2 => htail j (by omega) (by omega))
    rw [show i - m + m = i by omega] at this
    exact this
  have hheld : ∀ j, i - m ≤ j → j < i - m + m → tI l be af (i + 1) j = true ∧ hitAt l j = false := fun j g1 g2 => by
    refine ⟨(tI_iff l be af (i + 1) j (by omega)).2 (.inr (.inr ⟨i, by omega, by omega, by have := h.hm; omega, hx⟩)), ?_⟩
    cases hj : hitAt l j with
    | false => rfl
    | true =>
      have := (tI_iff l be af i j (by omega)).2 (.inl hj)
      rw [htail j (by omega) (by omega)] at this
      cases this
  obtain ⟨ht, ho, hb, ha, he, e1, e2, mo, hm, hu, hh, la⟩ := h
  have hla : Mat l s (emitI l (tI l be af (i + 1)) (i - m)).2 := by rw [hsame, ← hskip]; exact la
  obtain ⟨q1, q2⟩ := recAll_emit l (tI l be af (i + 1)) s (i - m) hla m hheld
  rw [show i - m + m = i by omega] at q1 q2
  have hy : tI l be af (i + 1) i = true := (tI_iff l be af (i + 1) i (by omega)).2 (.inl hx)
  have e : ctx s (rAt l i) true = ((recAll s (runR l (i - m) m)).1 ++ recL (fresh (recAll s (runR l (i - m) m)).2) (rAt l i) 58, told (fresh (recAll s (runR l (i - m) m)).2) (rAt l i)) := by
    unfold ctx; rw [if_pos rfl, hh]
  have hrt : ∀ (rl : List Rc) (s : Ts), (recAll s rl).2.tell = s.tell ∧ (recAll s rl).2.over = s.over ∧ (recAll s rl).2.before = s.before ∧ (recAll s rl).2.enough = s.enough ∧ (recAll s rl).2.records = s.records ∧ (recAll s rl).2.hits = s.hits := by
    intro rl
    induction rl with
    | nil => intro s; exact ⟨rfl, rfl, rfl, rfl, rfl, rfl⟩
    | cons x rl ih => intro s; exact ih (told s x)
  obtain ⟨r1, r2, r3, r4, r5, r6⟩ := hrt (runR l (i - m) m) s
  have r7 := recAll_after s (runR l (i - m) m)
  rw [e]
  refine ⟨?_, r1.trans ht, r2.trans ho, r3.trans hb, r7.trans ha, r4.trans he, r5.trans e1, r6.trans e2, .inr ⟨i, by omega, hx, fun j q1 q2 => by omega, ?_, by omega⟩, by simp, by omega, rfl, ?_⟩
  · rw [emitI_yes l _ i hy]
    simp only
    rw [q1, hsame, ← hskip, List.append_assoc]
    congr 2
    unfold recL emit1
    have := (q2.same (s' := fresh (recAll s (runR l (i - m) m)).2) rfl rfl).sep i
    rw [this, hx]; rfl
  · show (recAll s (runR l (i - m) m)).2.after = _
    rw [r7, ha]; simp
  · rw [emitI_yes l _ i hy]; exact Mat.told _ _
end Go.Proofs.YtbgmdjceecbbhaaDoor
