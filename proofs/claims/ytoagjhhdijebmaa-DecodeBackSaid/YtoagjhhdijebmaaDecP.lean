/-
  Plain facts: what a decoder tells of octets; no condition beyond those that each theorem states.
-/
import Derived.Test.YtoagjhhdijebmaaPlain3
import Derived.Test.YtoagjhhdijebmaaUnits2
import Derived.Test.YtoagjhhdijebmaaMarkP
namespace Go.Proofs.Ytoagjhhdijebmaa
open Go.RowKit Go.Rb

/-! ### Units of octets -/
def pr (k : Int) (x y : UInt8) : Int := if k = 2 then (x.toNat : Int) + 256 * (y.toNat : Int) else (y.toNat : Int) + 256 * (x.toNat : Int)
theorem unitsB_nil (k : Int) : unitsB k [] = [] := by unfold unitsB unK; simp
theorem unitsB_one (k : Int) (x : UInt8) : unitsB k [x] = [] := by unfold unitsB unK; simp
theorem unitsB_two (k : Int) (hk : twoP k = true) (x y : UInt8) (t : List UInt8) : unitsB k (x :: y :: t) = pr k x y :: unitsB k t := by
  unfold unitsB
  rw [if_pos hk, if_pos hk]
  have e : (x :: y :: t).length / 2 = t.length / 2 + 1 := by simp only [List.length_cons]; omega
  rw [e]
  unfold unK
  rw [List.range_succ_eq_map, List.map_cons, List.map_map]
  congr 1
theorem unitsB_ge (k : Int) (hk : twoP k = true) (l : List UInt8) (h : 2 ≤ l.length) : ∃ x y t, l = x :: y :: t ∧ unitsB k l = pr k x y :: unitsB k t := by
  match l, h with
  | x :: y :: t, _ => exact ⟨x, y, t, rfl, unitsB_two k hk x y t⟩
theorem joinP_take (us : List Int) : joinP (us.take 2) = joinP us := by
  match us with
  | [] => rfl
  | [u] => rfl
  | u :: v :: r => rfl
theorem joinP_bd (us : List Int) (h : us ≠ []) : 1 ≤ (joinP us).2 ∧ (joinP us).2 ≤ us.length ∧ (joinP us).2 ≤ 2 := by
  match us, h with
  | [u], _ =>
    rw [show joinP [u] = (if u < 65536 ∧ isB u = true then (u, 1) else if 55296 ≤ u ∧ u < 56320 then (65533, 1) else (65533, 1)) from rfl]
    split
    · simp
    · split <;> simp
  | u :: v :: r, _ =>
    rw [show joinP (u :: v :: r) = (if u < 65536 ∧ isB u = true then (u, 1) else if 55296 ≤ u ∧ u < 56320 then (if 56320 ≤ v ∧ v < 57344 then (65536 + 1024 * (u - 55296) + v - 56320, 2) else (65533, 1)) else (65533, 1)) from rfl]
    simp only [List.length_cons]
    split
    · simp; omega
    · split
      · split
        · simp; omega
        · simp; omega
      · simp; omega
theorem joinP_head {u : Int} (r : List Int) (h : ¬ (55296 ≤ u ∧ u < 56320)) : joinP (u :: r) = joinP [u] := by
  by_cases hb : u < 65536 ∧ isB u = true
  · rw [join_one hb.1 hb.2, join_one hb.1 hb.2]
  · rw [join_bad hb h, join_bad hb h]

/-! ### One code point -/
/-- The first code point that is settled, and how many octets it takes; 0: none is. -/
def stepD (k : Int) (all : Bool) (l : List UInt8) : Int × Int :=
  if k = 1 then if (!all && decide (OpenC l)) = true then (0, 0) else getP l
  else if unitsB k (l.take 4) = [] then if all = true then (65533, (l.length : Int)) else (0, 0)
  else if (decide (55296 ≤ (unitsB k (l.take 4)).headD 0) && decide ((unitsB k (l.take 4)).headD 0 < 56320) && decide ((unitsB k (l.take 4)).length = 1) && !all) = true then (0, 0)
  else ((joinP (unitsB k (l.take 4))).1, 2 * (joinP (unitsB k (l.take 4))).2)
def okK (k : Int) : Prop := k = 1 ∨ k = 2 ∨ k = 3
theorem okK_two {k : Int} (h : okK k) (h1 : ¬ k = 1) : twoP k = true := by
  rcases h with h | h | h
  · exact absurd h h1
  · subst h; rfl
  · subst h; rfl
theorem unitsB_len (k : Int) (l : List UInt8) : (unitsB k l).length ≤ l.length / 2 := by
  unfold unitsB
  split
  · rw [unK_len]; exact Nat.le_refl _
  · simp
theorem stepD_bd (k : Int) (all : Bool) (l : List UInt8) (hl : l ≠ []) : 0 ≤ (stepD k all l).2 ∧ (stepD k all l).2 ≤ l.length ∧ (all = true → 0 < (stepD k all l).2) := by
  have hpos : 0 < l.length := List.length_pos_iff.2 hl
  unfold stepD
  split
  · split
    · rename_i h; cases all <;> simp at h ⊢
    · have := getP_fits l hl
      exact ⟨by omega, this.2.2, fun _ => by omega⟩
  · split
    · split
      · exact ⟨by simp, by simp, fun _ => by simp; omega⟩
      · rename_i h; exact ⟨by simp, by simp, fun h' => absurd h' h⟩
    · rename_i h
      split
      · rename_i h2; refine ⟨by simp, by simp, fun h' => ?_⟩
        rw [h'] at h2; simp at h2
      · have h1 := joinP_bd _ h
        have h2 := unitsB_len k (l.take 4)
        have h3 : (l.take 4).length ≤ l.length := by rw [List.length_take]; omega
        exact ⟨by simp only; omega, by simp only; omega, fun _ => by simp only; omega⟩
/-- What is settled is so too where all is there. -/
theorem stepD_tf (k : Int) (l : List UInt8) (h : 0 < (stepD k false l).2) : stepD k true l = stepD k false l := by
  unfold stepD at h ⊢
  split
  · rename_i hk
    rw [if_pos hk] at h
    by_cases ho : OpenC l
    · rw [if_pos (by simp [ho])] at h; exact absurd h (by decide)
    · rw [if_neg (by simp), if_neg (by simp [ho])]
  · rename_i hk
    rw [if_neg hk] at h
    split
    · rename_i hu
      rw [if_pos hu, if_neg (by decide)] at h; exact absurd h (by decide)
    · rename_i hu
      rw [if_neg hu] at h
      by_cases hg : (decide (55296 ≤ (unitsB k (l.take 4)).headD 0) && decide ((unitsB k (l.take 4)).headD 0 < 56320) && decide ((unitsB k (l.take 4)).length = 1) && !false) = true
      · rw [if_pos hg] at h; exact absurd h (by decide)
      · rw [if_neg hg, if_neg (by simp)]
theorem stepD_more (k : Int) (hk : okK k) (l t : List UInt8) (h : 0 < (stepD k false l).2) : stepD k true (l ++ t) = stepD k false l := by
  unfold stepD at h ⊢
  by_cases h1 : k = 1
  · rw [if_pos h1] at h
    rw [if_pos h1, if_pos h1, if_neg (by simp)]
    by_cases ho : OpenC l
    · rw [if_pos (by simp [ho])] at h; exact absurd h (by decide)
    · rw [if_neg (by simp [ho]), settled l t ho]
  · have h2 := okK_two hk h1
    rw [if_neg h1] at h
    rw [if_neg h1, if_neg h1]
    by_cases hu : unitsB k (l.take 4) = []
    · rw [if_pos hu, if_neg (by decide)] at h; exact absurd h (by decide)
    · rw [if_neg hu] at h
      by_cases hg : (decide (55296 ≤ (unitsB k (l.take 4)).headD 0) && decide ((unitsB k (l.take 4)).headD 0 < 56320) && decide ((unitsB k (l.take 4)).length = 1) && !false) = true
      · rw [if_pos hg] at h; exact absurd h (by decide)
      · rw [if_neg hu, if_neg hg]
        clear h
        match l, hu, hg with
        | [], hu, _ => exact absurd (unitsB_nil k) hu
        | [x], hu, _ => exact absurd (unitsB_one k x) hu
        | [x, y], hu, hg =>
          have e : unitsB k ([x, y].take 4) = [pr k x y] := by rw [show [x, y].take 4 = [x, y] from rfl, unitsB_two k h2, unitsB_nil]
          have e2 : ∃ r, unitsB k (([x, y] ++ t).take 4) = pr k x y :: r := ⟨unitsB k (t.take 2), by rw [show ([x, y] ++ t).take 4 = x :: y :: t.take 2 from rfl, unitsB_two k h2]⟩
          obtain ⟨r, e2⟩ := e2
          rw [e] at hg
          rw [e, e2, if_neg (by simp), if_neg (by simp)]
          have hj : joinP (pr k x y :: r) = joinP [pr k x y] := joinP_head r (by simp at hg; omega)
          rw [hj]
        | [x, y, z], hu, hg =>
          have e : unitsB k ([x, y, z].take 4) = [pr k x y] := by rw [show [x, y, z].take 4 = [x, y, z] from rfl, unitsB_two k h2, unitsB_one]
          have e2 : ∃ r, unitsB k (([x, y, z] ++ t).take 4) = pr k x y :: r := ⟨unitsB k ((z :: t).take 2), by rw [show ([x, y, z] ++ t).take 4 = x :: y :: (z :: t).take 2 from rfl, unitsB_two k h2]⟩
          obtain ⟨r, e2⟩ := e2
          rw [e] at hg
          rw [e, e2, if_neg (by simp), if_neg (by simp)]
          have hj : joinP (pr k x y :: r) = joinP [pr k x y] := joinP_head r (by simp at hg; omega)
          rw [hj]
        | x :: y :: z :: u :: r, hu, hg =>
          have e : (x :: y :: z :: u :: r ++ t).take 4 = (x :: y :: z :: u :: r).take 4 := rfl
          rw [e, if_neg hu, if_neg (by simp)]

/-! ### All that is settled -/
def D (k : Int) (all : Bool) (l : List UInt8) : List UInt8 × List UInt8 :=
  if h : l ≠ [] ∧ 0 < (stepD k all l).2 then (putL (stepD k all l).1 ++ (D k all (l.drop (stepD k all l).2.toNat)).1, (D k all (l.drop (stepD k all l).2.toNat)).2) else ([], l)
  termination_by l.length
  decreasing_by
  all_goals
    have := List.length_pos_iff.2 h.1
    rw [List.length_drop]
    omega
theorem D_nil (k : Int) (all : Bool) : D k all [] = ([], []) := by rw [D]; simp
theorem D_stop {k : Int} {all : Bool} {l : List UInt8} (h : (stepD k all l).2 ≤ 0) : D k all l = ([], l) := by rw [D, dif_neg (by rintro ⟨_, h2⟩; omega)]
theorem D_step {k : Int} {all : Bool} {l : List UInt8} (hl : l ≠ []) (h : 0 < (stepD k all l).2) : D k all l = (putL (stepD k all l).1 ++ (D k all (l.drop (stepD k all l).2.toNat)).1, (D k all (l.drop (stepD k all l).2.toNat)).2) := by
  rw [D, dif_pos ⟨hl, h⟩]
theorem len_drop_lt {l : List UInt8} {n : Int} (hl : l ≠ []) (h : 0 < n) : (l.drop n.toNat).length < l.length := by
  have := List.length_pos_iff.2 hl
  rw [List.length_drop]; omega
theorem D_len (k : Int) (all : Bool) : ∀ (m : Nat) (l : List UInt8), l.length ≤ m → (D k all l).1.length ≤ 4 * l.length ∧ (D k all l).2.length ≤ l.length
  | 0, l, h => by
    obtain rfl : l = [] := List.eq_nil_of_length_eq_zero (by omega)
    rw [D_nil]; simp
  | m + 1, l, h => by
    by_cases hl : l = []
    · subst hl; rw [D_nil]; simp
    · by_cases hp : 0 < (stepD k all l).2
      · have hlt := len_drop_lt hl hp
        obtain ⟨h1, h2⟩ := D_len k all m (l.drop (stepD k all l).2.toNat) (by omega)
        have hb := (putL_bd (stepD k all l).1).1
        rw [D_step hl hp]
        simp only [List.length_append]
        omega
      · rw [D_stop (by omega)]; simp
theorem D_split (k : Int) : ∀ (m : Nat) (l : List UInt8), l.length ≤ m → (D k true l).1 = (D k false l).1 ++ (D k true (D k false l).2).1
  | 0, l, h => by
    obtain rfl : l = [] := List.eq_nil_of_length_eq_zero (by omega)
    rw [D_nil, D_nil]; simp [D_nil]
  | m + 1, l, h => by
    by_cases hl : l = []
    · subst hl; rw [D_nil, D_nil]; simp [D_nil]
    · by_cases hp : 0 < (stepD k false l).2
      · have hlt := len_drop_lt hl hp
        have ih := D_split k m (l.drop (stepD k false l).2.toNat) (by omega)
        have hs := stepD_tf k l hp
        rw [D_step (all := true) hl (by rw [hs]; exact hp), D_step hl hp, hs]
        simp only
        rw [ih, List.append_assoc]
      · rw [D_stop (all := false) (by omega)]; simp
theorem D_more (k : Int) (hk : okK k) (t : List UInt8) : ∀ (m : Nat) (l : List UInt8), l.length ≤ m → (D k true (l ++ t)).1 = (D k false l).1 ++ (D k true ((D k false l).2 ++ t)).1
  | 0, l, h => by
    obtain rfl : l = [] := List.eq_nil_of_length_eq_zero (by omega)
    rw [D_nil]; simp
  | m + 1, l, h => by
    by_cases hl : l = []
    · subst hl; rw [D_nil]; simp
    · by_cases hp : 0 < (stepD k false l).2
      · have hlt := len_drop_lt hl hp
        have ih := D_more k hk t m (l.drop (stepD k false l).2.toNat) (by omega)
        have hs := stepD_more k hk l t hp
        have hb := (stepD_bd k false l hl).2.1
        rw [D_step (all := true) (l := l ++ t) (by simp [hl]) (by rw [hs]; exact hp), D_step hl hp, hs]
        simp only
        rw [List.drop_append_of_le_length (by omega), ih, List.append_assoc]
      · rw [D_stop (all := false) (by omega)]; simp
theorem D_puts (k : Int) (all : Bool) : ∀ (m : Nat) (l : List UInt8), l.length ≤ m → ∃ rs, (D k all l).1 = allPut rs ∧ rs.length ≤ l.length
  | 0, l, h => by
    obtain rfl : l = [] := List.eq_nil_of_length_eq_zero (by omega)
    exact ⟨[], by rw [D_nil]; rfl, by simp⟩
  | m + 1, l, h => by
    by_cases hl : l = []
    · subst hl; exact ⟨[], by rw [D_nil]; rfl, by simp⟩
    · by_cases hp : 0 < (stepD k all l).2
      · have hlt := len_drop_lt hl hp
        obtain ⟨rs, h1, h2⟩ := D_puts k all m (l.drop (stepD k all l).2.toNat) (by omega)
        refine ⟨(stepD k all l).1 :: rs, ?_, by simp only [List.length_cons]; omega⟩
        rw [D_step hl hp, h1]; rfl
      · exact ⟨[], by rw [D_stop (by omega)]; rfl, by simp⟩
theorem putL_idem (r : Int) : putL (if isB r = true then r else 65533) = putL r := by
  unfold putL
  by_cases h : isB r = true
  · rw [if_pos h, if_pos h]
  · rw [if_neg h, if_pos (by decide)]
theorem stepD_one (l : List UInt8) : stepD 1 true l = getP l := by unfold stepD; rw [if_pos rfl, if_neg (by simp)]
/-- A text is its own text. -/
theorem D_text : ∀ rs : List Int, D 1 true (allPut rs) = (allPut rs, [])
  | [] => D_nil 1 true
  | r :: rs => by
    have hg := get_put r (allPut rs)
    have hb := putL_bd r
    have e : allPut (r :: rs) = putL r ++ allPut rs := rfl
    have hne : putL r ++ allPut rs ≠ [] := by intro h; have := congrArg List.length h; simp at this; rw [this.1] at hb; simp at hb
    have hs := stepD_one (putL r ++ allPut rs)
    rw [hg] at hs
    rw [e, D_step hne (by rw [hs]; show (0 : Int) < ((putL r).length : Int); omega), hs]
    simp only [Int.toNat_natCast, List.drop_left, putL_idem]
    rw [D_text rs]

/-! ### The document's way: all units at once -/
def JT (us : List Int) : List UInt8 :=
  if h : us ≠ [] then putL (joinP us).1 ++ JT (us.drop (joinP us).2.toNat) else []
  termination_by us.length
  decreasing_by
  have := List.length_pos_iff.2 h
  have := (joinP_bd us h).1
  rw [List.length_drop]
  omega
theorem JT_nil : JT [] = [] := by rw [JT]; simp
theorem JT_step {us : List Int} (h : us ≠ []) : JT us = putL (joinP us).1 ++ JT (us.drop (joinP us).2.toNat) := by rw [JT, dif_pos h]
def oddT (l : List UInt8) : List UInt8 := if l.length % 2 = 1 then [239, 191, 189] else []
theorem putL_wrong : putL 65533 = [239, 191, 189] := by decide +kernel
theorem unitsB_drop (k : Int) (hk : twoP k = true) : ∀ (n : Nat) (l : List UInt8), unitsB k (l.drop (2 * n)) = (unitsB k l).drop n
  | 0, l => by simp
  | n + 1, [] => by simp [unitsB_nil]
  | n + 1, [x] => by rw [unitsB_one]; simp [List.drop, show 2 * (n + 1) = 2 * n + 1 + 1 from by omega, unitsB_nil]
  | n + 1, x :: y :: t => by
    rw [unitsB_two k hk, List.drop_succ_cons, show 2 * (n + 1) = 2 * n + 1 + 1 from by omega, List.drop_succ_cons, List.drop_succ_cons]
    exact unitsB_drop k hk n t
theorem unitsB_take4 (k : Int) (hk : twoP k = true) (l : List UInt8) : unitsB k (l.take 4) = (unitsB k l).take 2 := by
  match l with
  | [] => simp [unitsB_nil]
  | [x] => simp [unitsB_one]
  | [x, y] => simp [unitsB_two k hk, unitsB_nil]
  | [x, y, z] => simp [unitsB_two k hk, unitsB_one]
  | x :: y :: z :: u :: r => simp [unitsB_two k hk, unitsB_nil]
theorem D_units (k : Int) (h1 : ¬ k = 1) (hk : twoP k = true) : ∀ (m : Nat) (l : List UInt8), l.length ≤ m → (D k true l).1 = JT (unitsB k l) ++ oddT l
  | 0, l, h => by
    obtain rfl : l = [] := List.eq_nil_of_length_eq_zero (by omega)
    rw [D_nil, unitsB_nil, JT_nil]; rfl
  | m + 1, l, h => by
    match l, h with
    | [], _ => rw [D_nil, unitsB_nil, JT_nil]; rfl
    | [x], _ =>
      have hs : stepD k true [x] = (65533, 1) := by
        unfold stepD
        rw [if_neg h1, show [x].take 4 = [x] from rfl, if_pos (unitsB_one k x), if_pos rfl]; rfl
      rw [D_step (by simp) (by rw [hs]; decide), hs, unitsB_one, JT_nil]
      show putL 65533 ++ (D k true ([x].drop 1)).1 = _
      rw [show [x].drop 1 = [] from rfl, D_nil, putL_wrong]; rfl
    | x :: y :: t, h =>
      have hu : unitsB k (x :: y :: t) ≠ [] := by rw [unitsB_two k hk]; simp
      have ht := unitsB_take4 k hk (x :: y :: t)
      have hj : joinP (unitsB k ((x :: y :: t).take 4)) = joinP (unitsB k (x :: y :: t)) := by rw [ht, joinP_take]
      have hne : unitsB k ((x :: y :: t).take 4) ≠ [] := by rw [show (x :: y :: t).take 4 = x :: y :: t.take 2 from rfl, unitsB_two k hk]; simp
      have hs : stepD k true (x :: y :: t) = ((joinP (unitsB k (x :: y :: t))).1, 2 * (joinP (unitsB k (x :: y :: t))).2) := by
        unfold stepD
        rw [if_neg h1, if_neg hne, if_neg (by simp), hj]
      have hb := joinP_bd _ hu
      have hul := unitsB_len k (x :: y :: t)
      generalize x :: y :: t = l at *
      have hl : l ≠ [] := by rintro rfl; exact hu (unitsB_nil k)
      have hp : 0 < (stepD k true l).2 := by rw [hs]; simp only; omega
      have hlt := len_drop_lt hl hp
      have ih := D_units k h1 hk m (l.drop (stepD k true l).2.toNat) (by omega)
      rw [D_step hl hp]
      simp only
      rw [ih, hs, JT_step hu]
      simp only
      have e : (2 * (joinP (unitsB k l)).2).toNat = 2 * (joinP (unitsB k l)).2.toNat := by omega
      rw [e, unitsB_drop k hk, List.append_assoc]
      congr 2
      unfold oddT
      rw [List.length_drop]
      have : (l.length - 2 * (joinP (unitsB k l)).2.toNat) % 2 = l.length % 2 := by omega
      rw [this]
theorem JT_units : ∀ rs : List Int, JT (rs.flatMap unitsL) = allPut rs
  | [] => JT_nil
  | r :: rs => by
    have hu := units_len r
    have e : (r :: rs).flatMap unitsL = unitsL r ++ rs.flatMap unitsL := rfl
    have hne : unitsL r ++ rs.flatMap unitsL ≠ [] := by intro h; have := congrArg List.length h; simp at this; rw [this.1] at hu; simp at hu
    rw [e, JT_step hne, join_units]
    simp only [Int.toNat_natCast, List.drop_left, putL_idem]
    rw [JT_units rs]; rfl
end Go.Proofs.Ytoagjhhdijebmaa
