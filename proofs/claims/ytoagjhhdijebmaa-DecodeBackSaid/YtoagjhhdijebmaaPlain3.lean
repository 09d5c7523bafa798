/-
  Plain facts: what is open, by the code's definition and by the document's; no condition beyond those that each theorem states.
-/
import Derived.Test.YtoagjhhdijebmaaOpen1
namespace Go.Proofs.Ytoagjhhdijebmaa
open Go.RowKit Go.Rb

theorem sz2 (r : Int) : sizeI r = 2 ↔ 128 ≤ r ∧ r < 2048 := by
  rcases size_cases r with ⟨hb, hs⟩ | ⟨hb, h0, h1, ⟨h2, hs⟩ | ⟨h2, h3, hs⟩ | ⟨h2, h3, hs⟩ | ⟨h2, hs⟩⟩
  · have := isB_false.1 hb; rw [hs]; omega
  all_goals (have := isB_true.1 hb; rw [hs]; omega)
theorem sz3 (r : Int) : sizeI r = 3 ↔ 2048 ≤ r ∧ r < 65536 ∧ (r < 55296 ∨ 57344 ≤ r) := by
  rcases size_cases r with ⟨hb, hs⟩ | ⟨hb, h0, h1, ⟨h2, hs⟩ | ⟨h2, h3, hs⟩ | ⟨h2, h3, hs⟩ | ⟨h2, hs⟩⟩
  · have := isB_false.1 hb; rw [hs]; omega
  all_goals (have := isB_true.1 hb; rw [hs]; omega)
theorem sz4 (r : Int) : sizeI r = 4 ↔ 65536 ≤ r ∧ r ≤ 1114111 := by
  rcases size_cases r with ⟨hb, hs⟩ | ⟨hb, h0, h1, ⟨h2, hs⟩ | ⟨h2, h3, hs⟩ | ⟨h2, h3, hs⟩ | ⟨h2, hs⟩⟩
  · have := isB_false.1 hb; rw [hs]; omega
  all_goals (have := isB_true.1 hb; rw [hs]; omega)
theorem finG_snd (n r : Int) (h1 : n ≠ 1) : (finG n r).2 = n ↔ sizeI r = n := by
  unfold finG
  by_cases h : sizeI r = n
  · rw [if_pos h]; simp [h]
  · rw [if_neg h]
    show (1 : Int) = n ↔ _
    omega
theorem finG_or (n r : Int) : finG n r = badG ∨ (finG n r).2 = n := by
  unfold finG
  split
  · exact .inr rfl
  · exact .inl rfl

/-- Either nothing is found, or as many octets as the first one says. -/
theorem getP_bad (l : List UInt8) (h : l ≠ []) : getP l = badG ∨ (getP l).2 = lenB (headI l) := by
  cases l with
  | nil => exact absurd rfl h
  | cons c0 rest =>
    show getP (c0 :: rest) = badG ∨ (getP (c0 :: rest)).2 = lenB (c0.toNat : Int)
    rcases lenB_cases (c0.toNat : Int) with ⟨h1, hl⟩ | ⟨h1, h2, hl⟩ | ⟨h1, h2, hl⟩ | ⟨h1, h2, hl⟩ | ⟨h1, h2, hl⟩ | ⟨h1, hl⟩
    · rw [getP_one _ _ hl, hl]; exact .inr rfl
    · exact .inl (getP_zero _ _ hl)
    · rcases rest with _ | ⟨c1, rest⟩
      · exact .inl (getP_2s1 _ hl)
      · rw [getP_2 _ _ _ hl, hl]
        split
        · exact finG_or _ _
        · exact .inl rfl
    · rcases rest with _ | ⟨c1, _ | ⟨c2, rest⟩⟩
      · exact .inl (getP_3s1 _ hl)
      · exact .inl (getP_3s2 _ _ hl)
      · rw [getP_3 _ _ _ _ hl, hl]
        split
        · split
          · exact finG_or _ _
          · exact .inl rfl
        · exact .inl rfl
    · rcases rest with _ | ⟨c1, _ | ⟨c2, _ | ⟨c3, rest⟩⟩⟩
      · exact .inl (getP_4s1 _ hl)
      · exact .inl (getP_4s2 _ _ hl)
      · exact .inl (getP_4s3 _ _ _ hl)
      · rw [getP_4 _ _ _ _ _ hl, hl]
        split
        · split
          · split
            · exact finG_or _ _
            · exact .inl rfl
          · exact .inl rfl
        · exact .inl rfl
    · exact .inl (getP_zero _ _ hl)
theorem head_app (b t : List UInt8) (h : b ≠ []) : headI (b ++ t) = headI b := by
  cases b with
  | nil => exact absurd rfl h
  | cons => rfl
theorem head_fill (b : List UInt8) (k : Nat) (x : UInt8) (h : b ≠ []) : headI (fillW b k x) = headI b := head_app _ _ h
theorem bad_snd (p : Int × Int) (h : p = badG) : p.2 = 1 := by rw [h]; rfl

theorem cont_lo : cont 128 := by decide
theorem cont_hi : cont 191 := by decide
theorem low_lo : low 128 = 0 := by decide
theorem low_hi : low 191 = 63 := by decide
theorem low_bd (c : UInt8) : 0 ≤ low c ∧ low c < 64 := by unfold low; omega

theorem if_snd {P : Prop} [Decidable P] (x : Int × Int) (n : Int) (hn : n ≠ 1) : (if P then x else badG).2 = n ↔ P ∧ x.2 = n := by
  split
  · rename_i h; exact ⟨fun e => ⟨h, e⟩, fun e => e.2⟩
  · rename_i h
    exact ⟨fun e => absurd e (by show (1 : Int) ≠ n; omega), fun e => absurd e.1 h⟩

/-- What is part of more octets of one code point is open. -/
theorem open_of_more (b t : List UInt8) (h : (b.length : Int) < (getP (b ++ t)).2) : OpenC b := by
  by_cases h0 : b = []
  · exact .inl h0
  · have hlen : 0 < b.length := List.length_pos_iff.2 h0
    have hne : b ++ t ≠ [] := by simp [h0]
    have hN : (getP (b ++ t)).2 = lenB (headI b) := by
      rcases getP_bad _ hne with h1 | h1
      · rw [bad_snd _ h1] at h; omega
      · rw [head_app _ _ h0] at h1; exact h1
    have hf := (getP_fits _ hne).2.2
    refine .inr ⟨by omega, ?_⟩
    obtain ⟨c0, b', rfl⟩ : ∃ c0 b', b = c0 :: b' := by
      cases b with
      | nil => exact absurd rfl h0
      | cons c0 b' => exact ⟨c0, b', rfl⟩
    show _ = lenB (c0.toNat : Int) ∨ _ = lenB (c0.toNat : Int)
    change _ = lenB (c0.toNat : Int) at hN
    rw [hN] at h hf
    show (getP (fillW (c0 :: b') ((lenB (c0.toNat : Int)).toNat - _) 128)).2 = _ ∨ (getP (fillW (c0 :: b') ((lenB (c0.toNat : Int)).toNat - _) 191)).2 = _
    rcases lenB_cases (c0.toNat : Int) with ⟨h1, hl⟩ | ⟨h1, h2, hl⟩ | ⟨h1, h2, hl⟩ | ⟨h1, h2, hl⟩ | ⟨h1, h2, hl⟩ | ⟨h1, hl⟩
    · simp at h; omega
    · simp at h; omega
    · rcases b' with _ | ⟨c1, b'⟩
      · left
        rw [hl]
        show (getP (c0 :: 128 :: [])).2 = 2
        rw [getP_2 _ _ _ hl, if_pos cont_lo, low_lo, finG_snd _ _ (by decide), sz2]
        omega
      · simp at h; omega
    · rcases b' with _ | ⟨c1, _ | ⟨c2, b'⟩⟩
      · rw [hl]
        show (getP (c0 :: 128 :: 128 :: [])).2 = 3 ∨ (getP (c0 :: 191 :: 191 :: [])).2 = 3
        rw [getP_3 _ _ _ _ hl, getP_3 _ _ _ _ hl, if_pos cont_lo, if_pos cont_lo, if_pos cont_hi, if_pos cont_hi, low_lo, low_hi, finG_snd _ _ (by decide), finG_snd _ _ (by decide), sz3, sz3]
        omega
      · obtain ⟨c2, t', rfl⟩ : ∃ c2 t', t = c2 :: t' := by
          cases t with
          | nil => simp at hf; omega
          | cons c2 t' => exact ⟨c2, t', rfl⟩
        rw [show [c0, c1] ++ c2 :: t' = c0 :: c1 :: c2 :: t' from rfl, getP_3 _ _ _ _ hl, hl, if_snd _ _ (by decide), if_snd _ _ (by decide), finG_snd _ _ (by decide), sz3] at hN
        have := low_bd c1
        have := low_bd c2
        rw [hl]
        left
        show (getP (c0 :: c1 :: 128 :: [])).2 = 3
        rw [getP_3 _ _ _ _ hl, if_pos hN.1, if_pos cont_lo, low_lo, finG_snd _ _ (by decide), sz3]
        omega
      · simp at h; omega
    · rcases b' with _ | ⟨c1, _ | ⟨c2, _ | ⟨c3, b'⟩⟩⟩
      · rw [hl]
        show (getP (c0 :: 128 :: 128 :: 128 :: [])).2 = 4 ∨ (getP (c0 :: 191 :: 191 :: 191 :: [])).2 = 4
        rw [getP_4 _ _ _ _ _ hl, getP_4 _ _ _ _ _ hl, if_pos cont_lo, if_pos cont_lo, if_pos cont_lo, if_pos cont_hi, if_pos cont_hi, if_pos cont_hi, low_lo, low_hi, finG_snd _ _ (by decide), finG_snd _ _ (by decide), sz4, sz4]
        omega
      · obtain ⟨c2, c3, t', rfl⟩ : ∃ c2 c3 t', t = c2 :: c3 :: t' := by
          rcases t with _ | ⟨c2, _ | ⟨c3, t'⟩⟩
          · simp at hf; omega
          · simp at hf; omega
          · exact ⟨c2, c3, t', rfl⟩
        rw [show [c0, c1] ++ c2 :: c3 :: t' = c0 :: c1 :: c2 :: c3 :: t' from rfl, getP_4 _ _ _ _ _ hl, hl, if_snd _ _ (by decide), if_snd _ _ (by decide), if_snd _ _ (by decide), finG_snd _ _ (by decide), sz4] at hN
        have := low_bd c1
        have := low_bd c2
        have := low_bd c3
        rw [hl]
        left
        show (getP (c0 :: c1 :: 128 :: 128 :: [])).2 = 4
        rw [getP_4 _ _ _ _ _ hl, if_pos hN.1, if_pos cont_lo, if_pos cont_lo, low_lo, finG_snd _ _ (by decide), sz4]
        omega
      · obtain ⟨c3, t', rfl⟩ : ∃ c3 t', t = c3 :: t' := by
          cases t with
          | nil => simp at hf; omega
          | cons c3 t' => exact ⟨c3, t', rfl⟩
        rw [show [c0, c1, c2] ++ c3 :: t' = c0 :: c1 :: c2 :: c3 :: t' from rfl, getP_4 _ _ _ _ _ hl, hl, if_snd _ _ (by decide), if_snd _ _ (by decide), if_snd _ _ (by decide), finG_snd _ _ (by decide), sz4] at hN
        have := low_bd c1
        have := low_bd c2
        have := low_bd c3
        rw [hl]
        left
        show (getP (c0 :: c1 :: c2 :: 128 :: [])).2 = 4
        rw [getP_4 _ _ _ _ _ hl, if_pos hN.1, if_pos hN.2.1, if_pos cont_lo, low_lo, finG_snd _ _ (by decide), sz4]
        omega
      · simp at h; omega
    · simp at h; omega

theorem get_take (b t : List UInt8) (h0 : b ≠ []) (h : lenB (headI b) ≤ (b.length : Int)) : getP (b ++ t) = getP b := by
  obtain ⟨c0, b', rfl⟩ : ∃ c0 b', b = c0 :: b' := by
    cases b with
    | nil => exact absurd rfl h0
    | cons c0 b' => exact ⟨c0, b', rfl⟩
  change lenB (c0.toNat : Int) ≤ _ at h
  rw [List.cons_append]
  rcases lenB_cases (c0.toNat : Int) with ⟨h1, hl⟩ | ⟨h1, h2, hl⟩ | ⟨h1, h2, hl⟩ | ⟨h1, h2, hl⟩ | ⟨h1, h2, hl⟩ | ⟨h1, hl⟩
  · rw [getP_one _ _ hl, getP_one _ _ hl]
  · rw [getP_zero _ _ hl, getP_zero _ _ hl]
  · rcases b' with _ | ⟨c1, b'⟩
    · simp at h; omega
    · rw [List.cons_append, getP_2 _ _ _ hl, getP_2 _ _ _ hl]
  · rcases b' with _ | ⟨c1, _ | ⟨c2, b'⟩⟩
    · simp at h; omega
    · simp at h; omega
    · rw [List.cons_append, List.cons_append, getP_3 _ _ _ _ hl, getP_3 _ _ _ _ hl]
  · rcases b' with _ | ⟨c1, _ | ⟨c2, _ | ⟨c3, b'⟩⟩⟩
    · simp at h; omega
    · simp at h; omega
    · simp at h; omega
    · rw [List.cons_append, List.cons_append, List.cons_append, getP_4 _ _ _ _ _ hl, getP_4 _ _ _ _ _ hl]
  · rw [getP_zero _ _ hl, getP_zero _ _ hl]

/-- What isn't open is settled. -/
theorem settled (b t : List UInt8) (h : ¬ OpenC b) : getP (b ++ t) = getP b := by
  have h0 : b ≠ [] := fun e => h (.inl e)
  have hne : b ++ t ≠ [] := by simp [h0]
  have hlen : 0 < b.length := List.length_pos_iff.2 h0
  by_cases hl : lenB (headI b) ≤ (b.length : Int)
  · exact get_take b t h0 hl
  · have h1 : ¬ (b.length : Int) < (getP (b ++ t)).2 := fun e => h (open_of_more b t e)
    have e1 : getP (b ++ t) = badG := by
      rcases getP_bad _ hne with e | e
      · exact e
      · rw [head_app _ _ h0] at e; omega
    have e2 : getP b = badG := by
      rcases getP_bad _ h0 with e | e
      · exact e
      · have := (getP_fits _ h0).2.2; omega
    rw [e1, e2]

theorem put_open (r : Int) (i : Nat) (h : i < (putL r).length) : OpenC ((putL r).take i) := by
  refine open_of_more _ ((putL r).drop i) ?_
  rw [List.take_append_drop]
  have := get_put r []
  rw [List.append_nil] at this
  rw [this, List.length_take]
  show _ < ((putL r).length : Int)
  omega
theorem put_not_open (r : Int) : ¬ OpenC (putL r) := by
  have hg := get_put r []
  rw [List.append_nil] at hg
  have hb := putL_bd r
  have h0 : putL r ≠ [] := fun e => by rw [e] at hb; simp at hb
  rintro (h | ⟨h, -⟩)
  · exact h0 h
  · rcases getP_bad _ h0 with e | e
    · rw [hg] at e
      have e1 := congrArg Prod.fst e
      have e2 := congrArg Prod.snd e
      change (if isB r = true then r else 65533) = (65533 : Int) at e1
      change ((putL r).length : Int) = 1 at e2
      have hp : putL r = putL 65533 := by
        unfold putL
        rw [e1, if_pos (by decide : isB 65533 = true)]
      rw [hp] at e2
      exact absurd e2 (by decide)
    · rw [hg] at e
      change ((putL r).length : Int) = _ at e
      omega
end Go.Proofs.Ytoagjhhdijebmaa
