/-
  The walk of reedbedlaw04.CutsSpread: it returns true; no condition beyond those that each theorem states.
-/
import Derived.Test.YtkppgofiojddoaaSpreadPlain
import Derived.Test.YtkppgofiojddoaaAwake
namespace Go.Proofs.Ytkppgofiojddoaa
open Go.RowKit Go.Rb

attribute [local irreducible] Go.wpQuiet

set_option maxHeartbeats 1000000 in
theorem spreadLaw_any (n most : Int) (w : World) : Calls Try.prog 3 #[.int .i64 n, .int .i64 most] w fun e w' => e = .returned (.bool true) ∧ Below w.heap.size w w' := by
  have hA : Hid (∀ w, Calls Try.prog 7 #[] w fun e w' => e = .returned (.bool true) ∧ Below w.heap.size w w') := awake_any
  by_cases h2 : n > 2000
  · go_enter Try.func3, Try.ntmps3
    go_wp2_with (first
      | (go_at_call 7; refine (hA.out _).mono ?_; rintro e1 w1 ⟨rfl, hb1⟩)
      | (go_at_call 7; refine (hA.out _).mono ?_; rintro e2 w2 ⟨rfl, hb2⟩))
    go_ret
    exact ⟨rfl, below_trans ‹Below w.heap.size w _› ‹_›⟩
  · have hS : Hid (∀ w, Calls Try.prog 8 #[.int .i64 n, .int .i64 most] w (RetNewI w (spreadP n most))) := fun w => codeSpread_any n most w (by omega)
    have hR : Hid (∀ w, Calls Try.prog 10 #[.int .i64 n, .int .i64 most] w (RetNewI w (spreadP n most))) := fun w => refSpread_any n most w (by omega)
    by_cases h1 : n < 1
    · have hn0 : spreadP n most = [] := if_pos h1
      rw [hn0] at hS hR
      have hI : Hid (∀ (X Y Z : World) (v u : Value), NewI Y X v [] → NewI X Z u [] → Calls Try.prog 9 #[v, u] Z fun e w' => e = .returned (.bool true) ∧ ∃ q, w' = Z.drewN q) := by
        rintro X Y Z v u ⟨h1, _, _⟩ ⟨h2, hb, _⟩
        obtain ⟨A, c, rfl, hr, _⟩ := Own.rd' (h1.below hb fun _ hk => h1.lt hk)
        obtain ⟨A', c', rfl, hr', _⟩ := Own.rd' h2
        refine (ints_any A A' _ _ c c' [] [] _ _ _ hr hr' (by simp) (by simp)).mono ?_
        rintro e w' ⟨rfl, hq⟩
        exact ⟨by simp, hq⟩
      go_enter Try.func3, Try.ntmps3
      go_wp2_with (first
        | (go_at_call 7; refine (hA.out _).mono ?_; rintro e1 w1 ⟨rfl, hb1⟩)
        | (go_at_call 8; refine (hS.out _).mono ?_; rintro e2 w2 ⟨v2, rfl, hnew2⟩; obtain ⟨A2, c2, rfl, -, -⟩ := Own.rd' hnew2.1)
        | (go_at_call 10; refine (hR.out _).mono ?_; rintro e3 w3 ⟨v3, rfl, hnew3⟩)
        | (go_at_call 9; refine (hI.out _ _ _ _ _ hnew2 hnew3).mono ?_; rintro e4 w4 ⟨rfl, q4, rfl⟩))
      refine wp_loop_rounds 1 ?_
      rw [rounds_succ]
      go_wp2
      go_ret
      exact ⟨rfl, below_drewN (below_trans (below_trans hb1 hnew2.2.1) hnew3.2.1) _⟩
    · obtain ⟨K, hok⟩ := spread_ok n most (by omega) (by omega)
      have HOK := Lib.hid hok
      have hK0 := hok.k0
      have hK1 := hok.k1
      generalize hzs : spreadP n most = zs at *
      have hI : Hid (∀ (X Y Z : World) (v u : Value), NewI Y X v zs → NewI X Z u zs → Calls Try.prog 9 #[v, u] Z fun e w' => e = .returned (.bool true) ∧ ∃ q, w' = Z.drewN q) := by
        rintro X Y Z v u ⟨h1, _, _⟩ ⟨h2, hb, _⟩
        obtain ⟨A, c, rfl, hr, _⟩ := Own.rd' (h1.below hb fun _ hk => h1.lt hk)
        obtain ⟨A', c', rfl, hr', _⟩ := Own.rd' h2
        refine (ints_any A A' _ _ c c' zs zs _ _ _ hr hr' (by rw [hok.len]; omega) (by rw [hok.len]; omega)).mono ?_
        rintro e w' ⟨rfl, hq⟩
        exact ⟨by simp, hq⟩
      have hlz := Lib.hid hok.len
      have hsb := Lib.hid hok.sumb
      clear hok hzs
      go_enter Try.func3, Try.ntmps3
      go_wp2_with (first
        | (go_at_call 7; refine (hA.out _).mono ?_; rintro e1 w1 ⟨rfl, hb1⟩)
        | (go_at_call 8; refine (hS.out _).mono ?_; rintro e2 w2 ⟨v2, rfl, hnew2⟩; have ho2 := hnew2.1; rw [hlz.out] at ho2; obtain ⟨A2, c2, rfl, hr2, hc2⟩ := Own.rd' ho2)
        | (go_at_call 10; refine (hR.out _).mono ?_; rintro e3 w3 ⟨v3, rfl, hnew3⟩)
        | (go_at_call 9; refine (hI.out _ _ _ _ _ hnew2 hnew3).mono ?_; rintro e4 w4 ⟨rfl, q4, rfl⟩))
      have hrd := Lib.hid (hr2.below (hnew3.2.1.mono (Nat.le_refl _)))
      have hbl := Lib.hid (below_trans (below_trans hb1 hnew2.2.1) hnew3.2.1)
      clear hr2 hnew2 hnew3 hb1 ho2
      go_loopw [6, 7] (fun s i wr => ∃ (k q : Nat) (z : Int), k ≤ K ∧ i = .int .i64 k ∧ s = .int .i64 z ∧ 0 ≤ z ∧ z ≤ n ∧ Hid (z = sumTo zs k) ∧ wr = w3.drewN q) (fun _ i _ => K - (intOf i).toNat)
      case atStart => exact ⟨0, q4, 0, by omega, rfl, rfl, by omega, by omega, by simp [Hid, sumTo], rfl⟩
      case round =>
        obtain ⟨k, q, z, hk, rfl, rfl, hz0, hzn, hz, rfl⟩ := hrel
        by_cases hlt : k < K
        · obtain ⟨b, off, rfl, hbB, hcell⟩ := hrd.out.2 (by omega)
          have hzl := hlz.out
          have hat : ∀ j, j < K → w3.cell? ⟨b, off + j, none⟩ = some (.int .i64 (zs.getD j 0)) := by
            intro j hj
            rw [hcell j (by omega), List.getElem?_map, List.getElem?_eq_getElem (by omega)]
            simp [iV, List.getD, List.getElem?_eq_getElem (show j < zs.length by omega)]
          have hs := Lib.hid (sumTo_succ zs k (by omega))
          have hs1 := (hsb.out (k + 1) (by omega))
          rw [hs.out, ← hz.out] at hs1
          have c1 := hat k hlt
          have c0 := hat 0 (by omega)
          have o1 := HOK.out.one k hlt
          have o2 := HOK.out.most k hlt
          have o3 := HOK.out.like k hlt
          have hz1 : Hid (z + zs.getD k 0 = sumTo zs (k + 1)) := by show _ = _; rw [hs.out, hz.out]
          rw [Nat.add_zero] at c0
          have hy : 1 ≤ zs.getD 0 0 ∧ zs.getD 0 0 ≤ 2000 := by
            have a1 := HOK.out.one 0 (by omega)
            have a2 := (hsb.out 1 (by omega)).2
            rw [sumTo_succ zs 0 (by omega)] at a2
            simp [sumTo] at a1 a2 ⊢
            omega
          have i1 : (k : Int) < (K : Int) := by omega
          by_cases hk0 : k = 0
          · subst hk0
            rw [Nat.add_zero] at c1
            generalize zs.getD 0 0 = x at *
            have e1 : decide (x < 1) = false := decide_eq_false (by omega)
            have e2 : decide (max most 1 < x) = false := decide_eq_false (by omega)
            have e3 : decide (x + 1 < x) = false := decide_eq_false (by omega)
            have ob := HOK.out.k1
            have hx : x ≤ 2000 := by omega
            clear hat hcell hs hzl o1 o2 o3
            go_wp2_with fail
            go_quiet (fail)
            go_wp2
            go_roundw
            case rel => exact ⟨1, q + nq, z + x, by omega, by go_num, by go_num, by omega, by omega, hz1.out, by first | rfl | simp [World.drewN_drewN]⟩
            case measure => simp [intOf]; omega
          · obtain ⟨j, rfl⟩ : ∃ j, k = j + 1 := ⟨k - 1, by omega⟩
            have c2 := hat j (by omega)
            have o4 := HOK.out.rise j (by omega)
            generalize zs.getD 0 0 = y at *
            generalize zs.getD (j + 1) 0 = x at *
            generalize zs.getD j 0 = u at *
            have e1 : decide (x < 1) = false := decide_eq_false (by omega)
            have e2 : decide (max most 1 < x) = false := decide_eq_false (by omega)
            have e3 : decide (y + 1 < x) = false := decide_eq_false (by omega)
            have e4 : decide (x < u) = false := decide_eq_false (by omega)
            clear hat hcell hs hzl o1 o2 o3 o4
            go_wp2_with fail
            go_quiet (fail)
            go_wp2
            go_roundw
            case rel => exact ⟨j + 1 + 1, q + nq, z + x, by omega, by go_num, by go_num, by omega, by omega, hz1.out, by first | rfl | simp [World.drewN_drewN]⟩
            case measure => simp [intOf]; omega
        · have hkn : k = K := by omega
          subst hkn
          have hzn : z = n := by rw [hz.out]; exact HOK.out.sum
          subst hzn
          have f0 := HOK.out.few0
          have f1 := HOK.out.few
          have hkn0 : ((k : Int) == 0) = false := by rw [beq_eq_false_iff_ne]; omega
          generalize hM : max most 1 = M at *
          have HM := hM
          obtain ⟨P, hP⟩ : ∃ P, ((k : Int) - 1) * M = P := ⟨_, rfl⟩
          rw [hP] at f0 f1
          go_wp2
          go_ret
          exact ⟨rfl, below_drewN hbl.out _⟩
end Go.Proofs.Ytkppgofiojddoaa
