/-
  Plain facts: the pipe as one line of things, of which the first so many are in it; no condition beyond those that each theorem states.
-/
import Derived.Test.YtfndppjicneliaaAwake14
namespace Go.Proofs.Ytfndppjicneliaa
open Go.RowKit Go.Rb

/-- One line; the first r are in it, the others offered. -/
def GS (r : Nat) (L : List Of) (c : Bool) (n : Int) : PS := ⟨r, (L.take r).map Prod.snd, L.drop r, c, n⟩
theorem gs_inn (r : Nat) (L : List Of) (c : Bool) (n : Int) : (GS r L c n).inn.length = min r L.length := by simp [GS]
theorem gs_ofs (r : Nat) (L : List Of) (c : Bool) (n : Int) : (GS r L c n).ofs.length = L.length - r := by simp [GS]
theorem gs_sum (r : Nat) (L : List Of) (c : Bool) (n : Int) : (GS r L c n).inn.length + (GS r L c n).ofs.length = L.length := by rw [gs_inn, gs_ofs]; omega
theorem gs_new (r : Nat) : newS r = GS r [] false 0 := by simp [newS, GS]
theorem waits_iff (s : PS) (who : Int) : waitsO s who = true ↔ ∃ o ∈ s.ofs, o.1 = who := by
  unfold waitsO
  rw [decide_eq_true_iff]
  rcases atI_cases s.ofs who with ⟨e, h⟩ | ⟨i, hi, e⟩
  · rw [e]
    exact ⟨fun h => by omega, fun ⟨o, ho, he⟩ => absurd he (h o ho)⟩
  · rw [e]
    refine ⟨fun _ => ?_, fun _ => by omega⟩
    unfold atI at e
    cases h : s.ofs.findIdx? (fun o => decide (o.1 = who)) with
    | none => rw [h] at e; simp at e
    | some j =>
      rw [List.findIdx?_eq_some_iff_getElem] at h
      obtain ⟨hj, hp, -⟩ := h
      exact ⟨_, List.getElem_mem hj, by simpa using hp⟩
theorem gs_send (r : Nat) (L : List Of) (n : Int) (who : Int) (x : It) (hw : waitsO (GS r L false n) who = false) :
    sendS (GS r L false n) who x = GS r (L ++ [(who, x)]) false (n + 1) ∧ sendE (GS r L false n) who = 0 ∧ sendV (GS r L false n) who = decide (L.length < r) := by
  have h1 : (GS r L false n).inn.length < r ↔ L.length < r := by rw [gs_inn]; omega
  have hcl : (GS r L false n).cl = false := rfl
  refine ⟨?_, by simp [sendE, hw, hcl], ?_⟩
  · unfold sendS
    rw [hw, hcl]
    simp only [Bool.false_eq_true, if_false]
    by_cases h : L.length < r
    · rw [if_pos (by show _ < r; exact h1.2 h)]
      simp only [GS, PS.mk.injEq, true_and, and_true]
      refine ⟨?_, ?_⟩
      · rw [List.take_of_length_le (by omega : L.length ≤ r), List.take_of_length_le (by simp; omega)]; simp
      · rw [List.drop_of_length_le (by omega : L.length ≤ r), List.drop_of_length_le (by simp; omega)]
    · rw [if_neg (show ¬ (GS r L false n).inn.length < (GS r L false n).room from fun hh => h (h1.1 hh))]
      simp only [GS, PS.mk.injEq, true_and, and_true]
      refine ⟨?_, ?_⟩
      · rw [List.take_append_of_le_length (by omega)]
      · rw [List.drop_append_of_le_length (by omega)]
  · unfold sendV
    rw [hw, hcl]
    show (true && true && decide _) = _
    rw [Bool.true_and, Bool.true_and]
    exact decide_eq_decide.2 h1
theorem gs_take (r : Nat) (y : Of) (t : List Of) (c : Bool) (n : Int) : takeX (GS r (y :: t) c n) = y.2 ∧ takeE (GS r (y :: t) c n) = 0 ∧ takeS (GS r (y :: t) c n) = GS r t c n := by
  cases r with
  | zero => exact ⟨rfl, rfl, rfl⟩
  | succ q =>
    refine ⟨rfl, rfl, ?_⟩
    unfold takeS
    simp only [GS, List.take_succ_cons, List.map_cons, List.drop_succ_cons]
    cases h : t.drop q with
    | nil =>
      have hq : t.length ≤ q := by simpa using h
      simp only [PS.mk.injEq, true_and, and_true]
      refine ⟨?_, ?_⟩
      · rw [List.take_of_length_le hq, List.take_of_length_le (by omega)]
      · rw [List.drop_of_length_le (by omega)]
    | cons o u =>
      simp only [PS.mk.injEq, true_and, and_true]
      have hl : q < t.length := by
        have := congrArg List.length h
        simp at this; omega
      have e : t[q] = o := by
        have := List.drop_eq_getElem_cons hl
        rw [h, List.cons.injEq] at this
        exact this.1.symm
      have e2 : t.drop (q + 1) = u := by
        have := List.drop_eq_getElem_cons hl
        rw [h, List.cons.injEq] at this
        exact this.2.symm
      refine ⟨?_, e2.symm⟩
      rw [List.take_add_one, List.getElem?_eq_getElem hl, e, List.map_append]
      rfl
theorem gs_none (r : Nat) (c : Bool) (n : Int) : takeX (GS r [] c n) = It0 ∧ takeE (GS r [] c n) = (if c then 17 else 19) ∧ takeS (GS r [] c n) = GS r [] c n := by
  unfold takeX takeE takeS
  simp [GS]
theorem gs_items (r : Nat) (L : List Of) (c : Bool) (n : Int) : itemsO (GS r L c n) = L.map Prod.snd := by
  show (L.take r).map Prod.snd ++ (L.drop r).map Prod.snd = _
  rw [← List.map_append, List.take_append_drop]
theorem gs_close (r : Nat) (L : List Of) (c : Bool) (n : Int) : closeE (GS r L c n) = (if c then 17 else if r < L.length then 18 else 0) := by
  unfold closeE
  rw [gs_ofs]
  show (if c = true then _ else if 0 < L.length - r then _ else _) = _
  by_cases h : r < L.length
  · rw [if_pos (show 0 < L.length - r by omega), if_pos h]
  · rw [if_neg (show ¬ 0 < L.length - r by omega), if_neg h]
theorem gs_ready (r : Nat) (L : List Of) (c : Bool) (n : Int) : readyO (GS r L c n) = (decide (0 < L.length) || c) := by
  unfold readyO
  rw [gs_sum]; rfl
theorem erase_drop : ∀ (r : Nat) (L : List Of) (i : Nat), i < (L.drop r).length → (L.eraseIdx (r + i)).take r = L.take r ∧ (L.eraseIdx (r + i)).drop r = (L.drop r).eraseIdx i
  | 0, L, i, h => by simp
  | r + 1, [], i, h => by simp at h
  | r + 1, y :: L, i, h => by
    obtain ⟨h1, h2⟩ := erase_drop r L i (by simpa using h)
    rw [show r + 1 + i = (r + i) + 1 from by omega]
    simp [h1, h2]
theorem gs_wd (r : Nat) (L : List Of) (c : Bool) (n : Int) (who : Int) (i : Nat) (hi : i < (L.drop r).length) (ha : atI (L.drop r) who = (i : Int)) : wdS (GS r L c n) who = GS r (L.eraseIdx (r + i)) c (n - 1) ∧ waitsO (GS r L c n) who = true := by
  have hw : waitsO (GS r L c n) who = true := by
    unfold waitsO
    show decide (0 ≤ atI (L.drop r) who) = true
    rw [ha]; simp
  refine ⟨?_, hw⟩
  unfold wdS
  rw [hw]
  simp only [if_pos]
  obtain ⟨h1, h2⟩ := erase_drop r L i hi
  show (⟨r, (L.take r).map Prod.snd, (L.drop r).eraseIdx (atI (L.drop r) who).toNat, c, n - 1⟩ : PS) = ⟨r, ((L.eraseIdx (r + i)).take r).map Prod.snd, (L.eraseIdx (r + i)).drop r, c, n - 1⟩
  rw [h1, h2, ha, Int.toNat_natCast]
theorem gs_wd_no (r : Nat) (L : List Of) (c : Bool) (n : Int) (who : Int) (hw : waitsO (GS r L c n) who = false) : wdS (GS r L c n) who = GS r L c n := by
  unfold wdS
  rw [hw]; rfl

/-- The senders a, a + 1, .., each with its number. -/
def rng (a m : Nat) : List Of := (List.range m).map fun k => (((a + k : Nat) : Int), itN ((a + k : Nat) : Int))
theorem rng_len (a m : Nat) : (rng a m).length = m := by simp [rng]
theorem rng_snoc (a m : Nat) : rng a (m + 1) = rng a m ++ [(((a + m : Nat) : Int), itN ((a + m : Nat) : Int))] := by simp [rng, List.range_succ]
theorem rng_cons (a m : Nat) : rng a (m + 1) = ((a : Int), itN (a : Int)) :: rng (a + 1) m := by
  unfold rng
  rw [List.range_succ_eq_map, List.map_cons, List.map_map]
  simp only [Nat.add_zero, List.cons.injEq, true_and]
  apply List.map_congr_left
  intro k _
  simp only [Function.comp]
  rw [show a + (k + 1) = a + 1 + k from by omega]
theorem rng_get {a m i : Nat} (h : i < m) : (rng a m)[i]? = some (((a + i : Nat) : Int), itN ((a + i : Nat) : Int)) := by simp [rng, h]
/-- Who of them waits. -/
theorem rng_waits (r a m : Nat) (c : Bool) (n : Int) (who : Nat) : waitsO (GS r (rng a m) c n) (who : Int) = decide (a + r ≤ who ∧ who < a + m) := by
  rw [Bool.eq_iff_iff, waits_iff, decide_eq_true_iff]
  show (∃ o ∈ (rng a m).drop r, o.1 = (who : Int)) ↔ _
  constructor
  · rintro ⟨o, ho, he⟩
    obtain ⟨j, hj, rfl⟩ := List.getElem_of_mem ho
    have hj' : r + j < m := by simp [rng_len] at hj; omega
    rw [List.getElem_drop] at he
    have e := rng_get (a := a) hj'
    rw [List.getElem?_eq_getElem (by rw [rng_len]; exact hj')] at e
    simp only [Option.some.injEq] at e
    rw [e] at he
    simp only at he
    omega
  · rintro ⟨h1, h2⟩
    refine ⟨((who : Int), itN (who : Int)), ?_, rfl⟩
    rw [List.mem_iff_getElem?]
    refine ⟨who - a - r, ?_⟩
    rw [List.getElem?_drop, rng_get (by omega), show a + (r + (who - a - r)) = who from by omega]
theorem rng_step (r a m : Nat) : sendS (GS r (rng a m) false ((a + m : Nat) : Int)) ((a + m : Nat) : Int) (itN ((a + m : Nat) : Int)) = GS r (rng a (m + 1)) false ((a + (m + 1) : Nat) : Int) ∧ sendE (GS r (rng a m) false ((a + m : Nat) : Int)) ((a + m : Nat) : Int) = 0 ∧ sendV (GS r (rng a m) false ((a + m : Nat) : Int)) ((a + m : Nat) : Int) = decide (m < r) := by
  have hw : waitsO (GS r (rng a m) false ((a + m : Nat) : Int)) ((a + m : Nat) : Int) = false := by rw [rng_waits, decide_eq_false_iff_not]; omega
  obtain ⟨h1, h2, h3⟩ := gs_send r (rng a m) ((a + m : Nat) : Int) ((a + m : Nat) : Int) (itN ((a + m : Nat) : Int)) hw
  rw [rng_len] at h3
  refine ⟨?_, h2, h3⟩
  rw [h1, rng_snoc]
  push_cast
  rw [Int.add_assoc]
end Go.Proofs.Ytfndppjicneliaa
