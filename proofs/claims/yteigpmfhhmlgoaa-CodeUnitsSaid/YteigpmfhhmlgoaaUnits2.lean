/-
  The law CodeUnits of reedbedlaw01 returns true; no condition beyond those that each theorem states.
-/
import Derived.Test.YteigpmfhhmlgoaaUnits1
namespace Go.Proofs.Yteigpmfhhmlgoaa
open Go.RowKit Go.Rb

theorem join_units (r : Int) (us : List Int) : joinP (unitsL r ++ us) = ((if isB r = true then r else 65533), ((unitsL r).length : Int)) := by
  cases hb : isB r
  · rw [unitsL_wrong hb]
    exact join_one (by omega) (by decide)
  · have h := isB_true.1 hb
    by_cases h1 : r < 65536
    · rw [unitsL_lo hb h1]
      exact join_one h1 hb
    · rw [unitsL_hi hb h1]
      show joinP (_ :: _ :: us) = _
      rw [join_two (by omega) (by omega)]
      simp
      omega
theorem units_len (r : Int) : (unitsL r).length ≤ 2 ∧ 0 < (unitsL r).length := by
  unfold unitsL unitsV
  by_cases h : (if isB r = true then r else 65533) < 65536 <;> simp [h]

theorem info3 : (Try.prog.info? 3).map (fun i => (i.zero, i.size, i.bytes)) = some (some (.int .i64 0), 1, 8) := by kernel_rfl

set_option maxHeartbeats 1000000 in
theorem units_small (r : Int) (us : List Int) (A : Option Addr) (n c : Nat) (w : World) (hr : Rd w w.heap.size 1 A n (us.map iV)) (hn : n ≤ 40) (hc : n ≤ c) :
    Calls Try.prog 4 #[.int .i64 r, .slice A n c] w fun e w' => e = .returned (.bool true) ∧ Below w.heap.size w w' := by
  obtain ⟨i0, hi0, hz0, hz1, hz2⟩ := info_parts info3
  have hul := units_len r
  have hjn := join_units r us
  have hnl : us.length = n := by simpa using hr.1
  have hia := refIs_any r
  obtain ⟨z, hz⟩ : ∃ z, isB r = z := ⟨_, rfl⟩
  rw [hz] at hia
  have hx : (z = true ∧ (if isB r = true then r else 65533) = r) ∨ (z = false ∧ (if isB r = true then r else 65533) = 65533 ∧ r ≠ 65533) := by
    cases z
    · exact .inr ⟨rfl, by rw [hz]; rfl, by rintro rfl; exact absurd hz (by decide)⟩
    · exact .inl ⟨rfl, by rw [hz]; rfl⟩
  generalize hX : (if isB r = true then r else 65533) = x at *
  generalize hU : unitsL r = ul at *
  have HU := Lib.hid hU
  have HJN := Lib.hid hjn
  have HIA := Lib.hid hia
  have HR := Lib.hid hr
  have HNL := Lib.hid hnl
  have HXX := Lib.hid hx
  clear hX hU hjn hia hr hz hnl hx
  obtain ⟨hul2, hul1⟩ := hul
  go_enter Try.func4, Try.ntmps4
  go_wp2_with fail
  refine (awake_any _).mono ?_
  rintro e w1 ⟨rfl, hb1⟩
  go_wp2_with fail
  refine (codeUnits_any r _).mono ?_
  rintro e w2 ⟨v2, rfl, ho2, hb2, hn2⟩
  rw [HU.out] at ho2
  obtain ⟨A2, c2, rfl, hr2, hc2⟩ := Own.rd' ho2
  have HO2 := Lib.hid ho2
  have HR2 := Lib.hid hr2
  clear ho2 hr2
  have hb12 := below_trans hb1 hb2
  have h63 : 0 + ul.length ≤ maxLen := by simp only [maxLen]; omega
  have h64 : (0 + ul.length) + n ≤ maxLen := by simp only [maxLen]; omega
  have H63 := Lib.hid h63; have H64 := Lib.hid h64
  clear h63 h64
  go_wp2_with (first
    | (at_builtin; refine wpList_append_rd _ rfl (.tmp 23) (.tmp 24) _ rfl 3 i0 _ 1 8 Try.underlying27 hi0 hz0 hz1 hz2 rfl (by omega) (.slice (some ⟨w2.heap.size, 0, none⟩) 0 0) 0 [] rfl
        (by exact Own.lit w2 3 1 0 #[] rfl (by decide)) w2.heap.size A2 ul.length c2 (ul.map iV) rfl (by exact HR2.out.below (below_al (Below.refl _ _) _)) (by simp [iV, Value.oneCell']) H63.out (by omega) _ rfl ?_;
       intro v3 w3 hown3 hgrow3 hat3)
    | (at_builtin; refine wpList_append_rd _ rfl (.tmp 25) (.tmp 26) _ rfl 3 i0 _ 1 8 Try.underlying27 hi0 hz0 hz1 hz2 rfl (by omega) v3 (0 + ul.length) _ rfl
        hown3 w.heap.size A n c (us.map iV) rfl (by exact HR.out.below (hb12.trans (Below.grown (below_al (Below.refl _ _) _) hgrow3 (by simp) (by simp [Value.ownBlock])|>.mono hb12.size))) (by simp [iV, Value.oneCell']) H64.out (by omega) _ rfl ?_;
       intro v4 w4 hown4 hgrow4 hat4))
  have hb23 : Below w2.heap.size w2 w3 := Below.grown (below_al (Below.refl _ w2) _) hgrow3 (by simp) (by simp [Value.ownBlock])
  have hb24 : Below w2.heap.size w2 w4 := Below.grown hb23 hgrow4 hb23.size (by
    intro k hk
    rcases hat3 with h | h <;> rw [h] at hk
    · simp [Value.ownBlock] at hk; omega
    · simp at hk; omega)
  have hb3 : Below w.heap.size w w3 := below_trans hb12 hb23
  have hb4 : Below w.heap.size w w4 := below_trans hb12 hb24
  obtain ⟨A4, c4, rfl, hr4, hc4⟩ := Own.rd' (xs := (ul ++ us).map iV) (by simpa using hown4)
  clear hown3 hown4 hgrow3 hgrow4 hat3 hat4
  have HB4 := Lib.hid hb4
  have HB2 := Lib.hid hb12
  have HB24 := Lib.hid hb24
  clear hb1 hb2 hb3 hb12 hb23 hb24
  have HR4 := Lib.hid hr4
  clear hr4
  refine (codeJoin_any (ul ++ us) A4 _ c4 _ w4 HR4.out (by omega) hc4).mono ?_
  rw [HJN.out]
  rintro e w5 ⟨rfl, rfl⟩
  go_wp2_with fail
  refine (codeJoin_any us A n c _ w4 (HR.out.below hb4) (by omega) hc).mono ?_
  rintro e w5 ⟨rfl, rfl⟩
  obtain ⟨⟨y, m⟩, hjy⟩ : ∃ p, joinP us = p := ⟨_, rfl⟩
  rw [hjy]
  go_wp2_with fail
  refine (refJoin_any us A n c _ w4 (HR.out.below hb4) (by omega) hc).mono ?_
  rw [hjy]
  have HJY := Lib.hid hjy
  clear hjy
  rintro e w5 ⟨rfl, rfl⟩
  go_wp2_with fail
  refine (refUnits_any r _).mono ?_
  rintro e w6 ⟨v6, rfl, ho6, hb6, hn6⟩
  rw [HU.out] at ho6
  obtain ⟨A6, c6, rfl, hr6, hc6⟩ := Own.rd' ho6
  clear ho6 hn2 hn6
  go_wp2_with fail
  refine (ints_any A2 A6 ul.length ul.length c2 c6 ul ul _ w2.heap.size w6.heap.size (HR2.out.below (HB24.out.trans (hb6.mono HB24.out.size))) hr6 (by omega) (by omega)).mono ?_
  rintro e w7 ⟨rfl, q, rfl⟩
  have hb7 : Below w.heap.size w (w6.drewN q) := below_drewN (below_trans hb4 hb6) q
  have HB7 := Lib.hid hb7
  rcases HXX.out with ⟨rfl, rfl⟩ | ⟨rfl, rfl, hne⟩
  · go_wp2_with (go_at_call 10; refine (HIA.out _).mono ?_; rintro e w' ⟨rfl, rfl⟩)
    go_ret
    exact ⟨by simp, HB7.out⟩
  · have hne' : ((65533 : Int) == r) = false := by simpa using fun h => hne h.symm
    go_wp2_with (go_at_call 10; refine (HIA.out _).mono ?_; rintro e w' ⟨rfl, rfl⟩)
    go_ret
    exact ⟨by simp, HB7.out⟩

set_option maxHeartbeats 400000 in
theorem units_any (r : Int) (us : List Int) (A : Option Addr) (n c : Nat) (w : World) (hr : Rd w w.heap.size 1 A n (us.map iV)) (hc : n ≤ c) :
    Calls Try.prog 4 #[.int .i64 r, .slice A n c] w fun e w' => e = .returned (.bool true) ∧ Below w.heap.size w w' := by
  by_cases hn : n ≤ 40
  · exact units_small r us A n c w hr hn hc
  · have hn' : (40 : Int) < (n : Int) := by omega
    clear hr
    go_enter Try.func4, Try.ntmps4
    go_wp2_with fail
    refine (awake_any _).mono ?_
    rintro e w1 ⟨rfl, hb1⟩
    go_wp2_with fail
    refine (awake_any _).mono ?_
    rintro e w2 ⟨rfl, hb2⟩
    go_wp2_with fail
    go_ret
    exact ⟨rfl, below_trans hb1 hb2⟩
end Go.Proofs.Yteigpmfhhmlgoaa
