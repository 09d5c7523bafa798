/-
  The law OrderTurned of reedbedlaw02 returns true; no condition beyond those that each theorem states.
-/
import Derived.Test.YtkibjjndeimikaaAwakeO
import Derived.Test.YtkibjjndeimikaaRegion
namespace Go.Proofs.Ytkibjjndeimikaa
open Go.RowKit Go.Rb
attribute [local irreducible] Go.wpQuiet

/-- The first j pairs turned about. -/
def tr (b : List UInt8) : Nat → List UInt8
  | 0 => b
  | j + 1 => ((tr b j).set (2 * j) (b.getD (2 * j + 1) 0)).set (2 * j + 1) (b.getD (2 * j) 0)
theorem tr_len (b : List UInt8) : ∀ j, (tr b j).length = b.length
  | 0 => rfl
  | j + 1 => by show (((tr b j).set _ _).set _ _).length = _; rw [List.length_set, List.length_set, tr_len b j]
theorem getD_set (l : List UInt8) (i j : Nat) (x : UInt8) (h : i < l.length) : (l.set i x).getD j 0 = if i = j then x else l.getD j 0 := by
  rw [List.getD_eq_getElem?_getD, List.getElem?_set]
  by_cases e : i = j
  · rw [if_pos e, if_pos e, if_pos h]; rfl
  · rw [if_neg e, if_neg e, ← List.getD_eq_getElem?_getD]
theorem tr_get (b : List UInt8) : ∀ j, 2 * j ≤ b.length → (∀ i, i < j → (tr b j).getD (2 * i) 0 = b.getD (2 * i + 1) 0 ∧ (tr b j).getD (2 * i + 1) 0 = b.getD (2 * i) 0) ∧ ∀ i, 2 * j ≤ i → (tr b j).getD i 0 = b.getD i 0
  | 0, _ => ⟨fun i h => by omega, fun i _ => rfl⟩
  | j + 1, h => by
    obtain ⟨h1, h2⟩ := tr_get b j (by omega)
    have hl := tr_len b j
    have key : ∀ i, (tr b (j + 1)).getD i 0 = if 2 * j + 1 = i then b.getD (2 * j) 0 else if 2 * j = i then b.getD (2 * j + 1) 0 else (tr b j).getD i 0 := fun i => by
      show (((tr b j).set _ _).set _ _).getD i 0 = _
      rw [getD_set _ _ _ _ (by rw [List.length_set]; omega), getD_set _ _ _ _ (by omega)]
    refine ⟨fun i hi => ?_, fun i hi => ?_⟩
    · by_cases e : i = j
      · subst e
        rw [key, key]
        rw [if_neg (by omega), if_pos rfl, if_pos rfl]
        exact ⟨rfl, rfl⟩
      · rw [key, key, if_neg (by omega), if_neg (by omega), if_neg (by omega), if_neg (by omega)]
        exact h1 i (by omega)
    · rw [key, if_neg (by omega), if_neg (by omega)]
      exact h2 i (by omega)
theorem tr_units (b : List UInt8) : unitsB 3 (tr b (b.length / 2)) = unitsB 2 b := by
  unfold unitsB
  rw [if_pos (by decide), if_pos (by decide), tr_len]
  unfold unK
  apply List.map_congr_left
  intro i hi
  rw [List.mem_range] at hi
  obtain ⟨h1, -⟩ := tr_get b (b.length / 2) (by omega)
  obtain ⟨h2, h3⟩ := h1 i hi
  rw [unAt3, unAt2, h2, h3]
theorem unitsB2_len (b : List UInt8) : (unitsB 2 b).length = b.length / 2 := by
  unfold unitsB
  rw [if_pos (by decide), unK_len]
set_option maxRecDepth 20000 in
set_option maxHeartbeats 8000000 in
theorem turned_small (b : List UInt8) (A : Option Addr) (n c : Nat) (w : World) (hA : Rd w w.heap.size 1 A n (b.map bV)) (hc : n ≤ c) (hn : n ≤ 200) :
    Calls Try.prog 5 #[.slice A n c] w fun e w' => e = .returned (.bool true) ∧ Below w.heap.size w w' := by
  obtain ⟨i0, hi0, hz0, hz1, hz2⟩ := info_parts info5
  have HA := Lib.hid hA
  have hl : b.length = n := by simpa using hA.1
  have HL := Lib.hid hl
  have i1 : ¬ (200 : Int) < (n : Int) := by omega
  have HU2 := Lib.hid (fun W (hb : Below w.heap.size w W) => units_any 2 b A n c w.heap.size W (HA.out.below hb) (by omega) hb.size)
  have h63 : 0 + n ≤ maxLen := by simp only [maxLen]; omega
  have H63 := Lib.hid h63
  have HTU := Lib.hid (tr_units b)
  have hul := unitsB2_len b
  rw [hl] at HTU hul
  obtain ⟨us, hus⟩ : ∃ us, unitsB 2 b = us := ⟨_, rfl⟩
  rw [hus] at HTU hul HU2
  have HUL := Lib.hid hul
  clear hA hl h63 hus hul
  go_enter Try.func5, Try.ntmps5
  go_wp2_with fail
  refine (awake_any _).mono ?_
  rintro e1 w1 ⟨rfl, hb1⟩
  have HB1 := Lib.hid hb1
  have HA1 := Lib.hid ((HA.out.below hb1))
  clear hb1
  go_wp2_with (at_builtin; refine wpList_append_rd _ rfl (.tmp 13) (.tmp 14) _ rfl 5 i0 _ 1 1 Try.underlying24 hi0 hz0 hz1 hz2 rfl (by omega) (.slice (some ⟨w1.heap.size, 0, none⟩) 0 0) 0 [] rfl (by exact Own.lit w1 5 1 0 #[] rfl (by decide)) w.heap.size A n c (b.map bV) rfl (by exact HA1.out.below ((below_al (Below.refl _ _) _).mono HB1.out.size)) (by simp [bV, Value.oneCell']) H63.out (by omega) _ rfl ?_; intro v2 w2 hown2 hgrow2 hat2; have HO2 := Lib.hid hown2; have HB2 := Lib.hid (Below.grown (HB1.out.alloc HB1.out.size _) hgrow2 (by simp; have := HB1.out.size; omega) (by intro k hk; simp [Value.ownBlock] at hk; rw [← hk]; exact HB1.out.size)); have HK2 : Hid (∀ k, v2.ownBlock = some k → w.heap.size ≤ k) := (fun k hk => by have := HB1.out.size; rcases hat2 with h | h; (have h' := h.symm.trans hk; simp [Value.ownBlock] at h'; omega); (have h' := h.symm.trans hk; simp at h'; omega)); clear hown2 hgrow2 hat2)
  have ho2 := HO2.out
  rw [List.nil_append, Nat.zero_add] at ho2
  obtain ⟨A3, c3, rfl, hc3, -⟩ := ho2.len_
  have HO3 := Lib.hid ho2
  clear ho2 HO2
  go_loopw [4] (fun iv wr => ∃ j : Nat, 2 * j ≤ n ∧ iv = .int .i64 (2 * (j : Int)) ∧ Own wr 5 1 (.slice A3 n c3) n ((tr b j).map bV) ∧ Below w.heap.size w wr) (fun iv _ => n - (intOf iv).toNat)
  case atStart => exact ⟨0, by omega, rfl, HO3.out, HB2.out⟩
  case round =>
    obtain ⟨j, hj, rfl, hx, hbw⟩ := hrel
    have HB := Lib.hid hbw
    have HX := Lib.hid hx
    clear hbw
    by_cases hlt : 2 * j + 1 < n
    · have j1 : 2 * (j : Int) + 1 < (n : Int) := by omega
      have j2 : 2 * (j : Int) < (n : Int) := by omega
      have j3 : (0 : Int) ≤ 2 * (j : Int) := by omega
      have j4 : (2 * (j : Int)).toNat = 2 * j := by omega
      have j5 : (2 * (j : Int) + 1).toNat = 2 * j + 1 := by omega
      have j6 : (0 : Int) ≤ 2 * (j : Int) + 1 := by omega
      obtain ⟨g, o, cc, e, -, -, -, hcell, hfz⟩ := hx.form (by omega)
      simp only [Value.slice.injEq] at e
      obtain ⟨rfl, -, rfl⟩ := e
      obtain ⟨-, t2⟩ := tr_get b j (by rw [HL.out]; exact hj)
      have htl : (tr b j).length = n := by rw [tr_len, HL.out]
      have x1 : wr.cell? ⟨g, o + 2 * j, none⟩ = some (.int .u8 ((b.getD (2 * j) 0).toNat : Int)) := by
        rw [hcell (2 * j) (by omega), List.getElem?_map, List.getElem?_eq_getElem (by omega), ← t2 (2 * j) (Nat.le_refl _), getD_at (by omega)]
        rfl
      have x2 : wr.cell? ⟨g, o + (2 * j + 1), none⟩ = some (.int .u8 ((b.getD (2 * j + 1) 0).toNat : Int)) := by
        rw [hcell (2 * j + 1) (by omega), List.getElem?_map, List.getElem?_eq_getElem (by omega), ← t2 (2 * j + 1) (by omega), getD_at (by omega)]
        rfl
      have f1 := hfz (o + 2 * j)
      have f2 := hfz (o + (2 * j + 1))
      have HST : Hid (Own ((wr.drew.setCell ⟨g, o + 2 * j, none⟩ (.int .u8 ((b.getD (2 * j + 1) 0).toNat : Int))).setCell ⟨g, o + (2 * j + 1), none⟩ (.int .u8 ((b.getD (2 * j) 0).toNat : Int))) 5 1 (.slice (some ⟨g, o, none⟩) n c3) n ((tr b (j + 1)).map bV)) := by
        have h1 := (HX.out.drew.store (2 * j) (by omega) (.int .u8 ((b.getD (2 * j + 1) 0).toNat : Int))).store (2 * j + 1) (by omega) (.int .u8 ((b.getD (2 * j) 0).toNat : Int))
        show Own _ _ _ _ _ ((((tr b j).set _ _).set _ _).map bV)
        rw [List.map_set, List.map_set]
        exact h1
      have HBT : Hid (Below w.heap.size w ((wr.drew.setCell ⟨g, o + 2 * j, none⟩ (.int .u8 ((b.getD (2 * j + 1) 0).toNat : Int))).setCell ⟨g, o + (2 * j + 1), none⟩ (.int .u8 ((b.getD (2 * j) 0).toNat : Int)))) :=
        ((below_drewN HB.out 1).setCell (p := ⟨g, o + 2 * j, none⟩) (HK2.out g rfl) _).setCell (p := ⟨g, o + (2 * j + 1), none⟩) (HK2.out g rfl) _
      generalize (b.getD (2 * j) 0).toNat = p at *
      generalize (b.getD (2 * j + 1) 0).toNat = q at *
      clear hcell hfz hx t2 htl
      have hw1 : IntKind.i64.wrap (2 * (j : Int) + 1) = 2 * (j : Int) + 1 := by rw [IntKind.wrap_i64]; omega
      go_wp2_with fail
      go_region
      all_goals (
        clear hw1
        go_wp2_with fail
        go_roundw
        case rel => exact ⟨j + 1, by omega, by go_num, HST.out, HBT.out⟩
        case measure => simp [intOf]; omega)
    · have j1 : ¬ 2 * (j : Int) + 1 < (n : Int) := by omega
      have e : j = n / 2 := by omega
      have htl : (tr b j).length = n := by rw [tr_len, HL.out]
      have HU3 := Lib.hid (fun W (hb : Below wr.heap.size wr W) => units_any 3 (tr b j) A3 n c3 W.heap.size W ((HX.out.below hb fun _ h => HX.out.lt h).rd) (by omega) (Nat.le_refl _))
      rw [e, HTU.out] at HU3
      have hq : (n : Int).tdiv 2 = ((n / 2 : Nat) : Int) := by rw [Int.tdiv_eq_ediv_of_nonneg (by omega)]; omega
      clear hx htl e
      have hll : us.length ≤ 1000 := by have := HUL.out; omega
      go_wp2_with fail
      refine (HU2.out _ HB.out).mono ?_
      rintro e5 w5 ⟨v5, rfl, hn5⟩
      have HB5 := Lib.hid (below_trans HB.out hn5.2.1)
      have HX5 : Hid (Below wr.heap.size wr w5) := hn5.2.1
      have HO5 := Lib.hid hn5.1
      obtain ⟨A5, c5, rfl, -, -⟩ := hn5.1.len_
      clear hn5
      go_wp2_with fail
      refine (HU3.out _ HX5.out).mono ?_
      rintro e6 w6 ⟨v6, rfl, hn6⟩
      have HB6 := Lib.hid (below_trans HB5.out hn6.2.1)
      have HO6 := Lib.hid hn6.1
      have HO56 := Lib.hid (HO5.out.below hn6.2.1 fun _ h => HO5.out.lt h)
      obtain ⟨A6, c6, rfl, -, -⟩ := hn6.1.len_
      clear hn6
      have HII := Lib.hid (ints_any A5 A6 us.length us.length c5 c6 us us w6 _ _ HO56.out.rd HO6.out.rd (by omega) (by omega))
      rw [decide_eq_true rfl] at HII
      go_wp2_with fail
      refine HII.out.mono ?_
      rintro e7 w7 ⟨rfl, q7, rfl⟩
      have HB7 := Lib.hid (below_drewN HB6.out q7)
      go_wp2_with fail
      refine (HU2.out _ HB7.out).mono ?_
      rintro e8 w8 ⟨v8, rfl, hn8⟩
      have HB8 := Lib.hid (below_trans HB7.out hn8.2.1)
      obtain ⟨A8, c8, rfl, -, -⟩ := hn8.1.len_
      clear hn8
      rw [HUL.out]
      go_wp2_with fail
      go_ret
      exact ⟨rfl, HB8.out⟩

set_option maxHeartbeats 2000000 in
theorem turned_any (b : List UInt8) (A : Option Addr) (n c : Nat) (w : World) (hA : Rd w w.heap.size 1 A n (b.map bV)) (hc : n ≤ c) :
    Calls Try.prog 5 #[.slice A n c] w fun e w' => e = .returned (.bool true) ∧ Below w.heap.size w w' := by
  by_cases h1 : n ≤ 200
  · exact turned_small b A n c w hA hc h1
  · have i1 : (200 : Int) < (n : Int) := by omega
    clear hA
    go_enter Try.func5, Try.ntmps5
    go_wp2_with fail
    refine (awake_any _).mono ?_
    rintro e1 w1 ⟨rfl, hb1⟩
    have HB1 := Lib.hid hb1
    clear hb1
    go_wp2_with fail
    refine (awake_any _).mono ?_
    rintro e3 w3 ⟨rfl, hb3⟩
    have HB3 := Lib.hid (below_trans HB1.out hb3)
    clear hb3
    go_wp2_with fail
    go_ret
    exact ⟨rfl, HB3.out⟩
end Go.Proofs.Ytkibjjndeimikaa
