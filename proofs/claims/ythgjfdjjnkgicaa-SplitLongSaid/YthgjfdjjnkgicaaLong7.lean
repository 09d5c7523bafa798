/-
  The law 'too long ones' (SplitLong): its walk; no condition beyond those that each theorem states.
-/
import Derived.Test.YthgjfdjjnkgicaaAwake7
import Derived.Test.YthgjfdjjnkgicaaPlain7e
namespace Go.Proofs.Ythgjfdjjnkgicaa
open Go.RowKit Go.Rb
attribute [local irreducible] Go.wpQuiet

set_option maxHeartbeats 4000000 in
theorem long_out (m : Int) (s : ByteArray) (w : World) (h : ¬ (s.size ≤ 500 ∧ 1 ≤ m ∧ m ≤ 4096)) : Calls Try.prog 5 #[.int .i64 m, .string s] w fun e w' => e = .returned (.bool true) ∧ Below w.heap.size w w' := by
  have HA : Hid (∀ w, Calls Try.prog 7 #[] w fun e w' => e = .returned (.bool true) ∧ Below w.heap.size w w') := awake_any
  have hc : (500 : Int) < (s.size : Int) ∨ (¬ (500 : Int) < (s.size : Int) ∧ m < 1) ∨ (¬ (500 : Int) < (s.size : Int) ∧ ¬ m < 1 ∧ 4096 < m) := by omega
  clear h
  rcases hc with i1 | ⟨i1, i2⟩ | ⟨i1, i2, i3⟩
  all_goals
    go_enter Try.func5, Try.ntmps5
    go_wp2_with (first
      | (go_at_call 7; refine (HA.out _).mono ?_; rintro e2 w2 ⟨rfl, hb2⟩; have HB2 := Lib.hid (below_trans HB1.out hb2); clear hb2)
      | (go_at_call 7; refine (HA.out _).mono ?_; rintro e1 w1 ⟨rfl, hb1⟩; have HB1 := Lib.hid hb1; clear hb1))
    go_ret
    exact ⟨rfl, HB2.out⟩
set_option maxRecDepth 20000 in
set_option maxHeartbeats 8000000 in
theorem long_main (n : Nat) (x : List UInt8) (w : World) (h1 : 1 ≤ n) (h2 : n ≤ 4096) (hx : x.length ≤ 500) : Calls Try.prog 5 #[.int .i64 (n : Int), .string (mk x)] w fun e w' => e = .returned (.bool true) ∧ Below w.heap.size w w' := by
  have HA : Hid (∀ w, Calls Try.prog 7 #[] w fun e w' => e = .returned (.bool true) ∧ Below w.heap.size w w') := awake_any
  have HX := Lib.hid (show ∀ w, Calls Try.prog 8 #[.int .i64 4096, .string (mk x)] w _ from fun w => all_any 4096 x w (by decide) (by decide) (by omega))
  have HY := Lib.hid (fun w => all_any n x w h1 h2 (by omega))
  rw [al_lv] at HX HY
  rw [lv_less n 4096 h2 x.length x 0 0 (Nat.le_refl _) (by omega)] at HY
  rw [lv_ok 4096 x.length x 0 0 (Nat.le_refl _) (by omega)] at HX
  have hl := lv_len 4096 x.length x 0 0 (Nat.le_refl _)
  generalize (lv 4096 x 0 0).1 = O at *
  obtain ⟨O1, hO1⟩ : ∃ l, O.takeWhile (fun r => !decide (n < r.t.length)) = l := ⟨_, rfl⟩
  obtain ⟨E1, hE1⟩ : ∃ l : Int, (if O.all (fun r => !decide (n < r.t.length)) then 0 else 10) = l := ⟨_, rfl⟩
  simp only [hO1, hE1] at HY
  have HOE := Lib.hid (And.intro hO1 hE1)
  have hz := mk_size x
  have hl1 : O1.length ≤ O.length := by rw [← hO1]; exact (List.takeWhile_sublist _).length_le
  obtain ⟨k, hk⟩ : ∃ k, O.length = k := ⟨_, rfl⟩
  obtain ⟨k1, hk1⟩ : ∃ k, O1.length = k := ⟨_, rfl⟩
  have hk2 : k ≤ 500 := by omega
  have hk3 : k1 ≤ k := by omega
  have HK := Lib.hid hk
  have HK1 := Lib.hid hk1
  rw [hk] at HX
  rw [hk1] at HY
  have i1 : ¬ (500 : Int) < (x.length : Int) := by omega
  have i2 : ¬ (n : Int) < 1 := by omega
  have i3 : ¬ (4096 : Int) < (n : Int) := by omega
  clear hl hl1 hk hk1 h1 h2 hO1 hE1
  generalize mk x = b at *
  generalize x.length = lx at *
  go_enter Try.func5, Try.ntmps5
  go_wp2_with (first
    | (go_at_call 7; refine (HA.out _).mono ?_; rintro e1 w1 ⟨rfl, hb1⟩; have HB1 := Lib.hid hb1; clear hb1)
    | (go_at_call 8; (with_reducible refine (HX.out _).mono ?_); rintro e3 w3 ⟨v3, rfl, hown3, -, hb3⟩; obtain ⟨A3, c3, rfl, hc3, -⟩ := hown3.len_; have HB3 := Lib.hid (below_trans HB2.out hb3); have HO3 := Lib.hid hown3.rd; have HO2' := Lib.hid ((HO2.out.below hb3 (fun k hk => HO2.out.lt hk)).rd); clear hb3 hown3)
    | (go_at_call 8; (with_reducible refine (HY.out _).mono ?_); rintro e2 w2 ⟨v2, rfl, hown2, -, hb2⟩; obtain ⟨A2, c2, rfl, -, -⟩ := hown2.len_; have HB2 := Lib.hid (below_trans HB1.out hb2); have HO2 := Lib.hid hown2; clear hb2 hown2))
  go_loopw [9, 10] (fun lv iv wr => ∃ (i : Nat) (L : Int), i ≤ k ∧ lv = .int .i64 L ∧ iv = .int .i64 i ∧ wr = w3 ∧ Hid (FL n O i L)) (fun _ iv _ => k - (intOf iv).toNat)
  case atStart => exact ⟨0, -1, by omega, rfl, rfl, rfl, fl_zero n O⟩
  case round =>
    obtain ⟨i, L, hi, rfl, rfl, rfl, hF⟩ := hrel
    by_cases hlt : i < k
    · obtain ⟨pa, po, rfl, -, hcell⟩ := HO3.out.2 (by omega)
      have hi2 : i < O.length := by rw [HK.out]; exact hlt
      have g2 := rcs_get O i 2 hi2 (by decide)
      have x2 := hcell (i * 3 + 2) (by omega)
      rw [g2, ← Nat.add_assoc] at x2
      have htn := tlen_some (List.getElem?_eq_getElem hi2)
      simp only [rc, nV, List.getElem?_cons_zero, List.getElem?_cons_succ] at x2
      generalize O[i] = r at *
      obtain ⟨r1, r2, t⟩ := r
      simp only at x2 htn
      have hzt := mk_size t
      have i4 : (i : Int) < (k : Int) := by omega
      have i5 : (0 : Int) ≤ (i : Int) := by omega
      by_cases hlg : n < t.length
      · have i6 : (n : Int) < (t.length : Int) := by omega
        rw [← htn] at hlg
        have hFo := hF.out
        have hFL : L = -1 ∨ ∃ j : Nat, L = (j : Int) := by
          rcases hFo with ⟨-, h⟩ | ⟨j, -, h, -⟩
          · exact .inl h
          · exact .inr ⟨j, h⟩
        clear hcell g2 hi2
        rcases hFL with rfl | ⟨j, rfl⟩
        · have HN := Lib.hid (hFo.first hlg)
          clear hF hFo htn hlg
          generalize mk t = bt at *
          generalize t.length = tl at *
          go_wp2_with fail
          go_roundw
          case rel => exact ⟨i + 1, (i : Int), by omega, rfl, by go_num, by first | rfl | trivial, HN.out⟩
          case measure => simp [intOf]; omega
        · have HN := Lib.hid hFo.later
          have i7 : ¬ (j : Int) < 0 := by omega
          clear hF hFo htn hlg
          generalize mk t = bt at *
          generalize t.length = tl at *
          go_wp2_with fail
          go_roundw
          case rel => exact ⟨i + 1, (j : Int), by omega, rfl, by go_num, by first | rfl | trivial, HN.out⟩
          case measure => simp [intOf]; omega
      · have i6 : ¬ (n : Int) < (t.length : Int) := by omega
        rw [← htn] at hlg
        have HN := Lib.hid (hF.out.no hlg)
        clear hF htn hlg hcell g2 hi2
        generalize mk t = bt at *
        generalize t.length = tl at *
        go_wp2_with fail
        go_roundw
        case rel => exact ⟨i + 1, L, by omega, rfl, by go_num, by first | rfl | trivial, HN.out⟩
        case measure => simp [intOf]; omega
    · have hF2 := hF.out
      obtain rfl : i = k := by omega
      rw [← HK.out] at hF2
      have hFL : L = -1 ∨ ∃ j : Nat, L = (j : Int) := by
        rcases hF.out with ⟨-, h⟩ | ⟨j, -, h, -⟩
        · exact .inl h
        · exact .inr ⟨j, h⟩
      have hOE := HOE.out
      rcases hFL with rfl | ⟨j, rfl⟩
      · obtain ⟨q1, q2⟩ := hF2.none_
        rw [q1, q2, if_pos rfl] at hOE
        obtain ⟨rfl, rfl⟩ := hOE
        obtain rfl : i = k1 := by rw [← HK.out, HK1.out]
        clear q1 q2 hF hF2
        go_wp2_with (go_at_call 10; refine (same_any _ _ _ _ _ _ _ O _ HK.out HO2'.out HO3.out (by omega)).mono ?_; rintro e4 w4 ⟨rfl, q4, rfl⟩)
        go_ret
        exact ⟨rfl, below_drewN HB3.out _⟩
      · obtain ⟨q0, q1, q2⟩ := hF2.some_
        rw [q1, q2, if_neg (by decide)] at hOE
        obtain ⟨rfl, rfl⟩ := hOE
        rw [HK.out] at q0
        obtain rfl : j = k1 := by have h := HK1.out; rw [List.length_take, HK.out] at h; omega
        have HO4 := Lib.hid (HO3.out.take_ (k := j) (by omega))
        rw [← rcs_take] at HO4
        obtain ⟨pa, po, rfl, -, -⟩ := HO3.out.2 (by omega)
        have i7 : ¬ (j : Int) < 0 := by omega
        clear q1 q2 hF hF2
        go_wp2_with (go_at_call 10; refine (same_any _ _ _ _ _ _ _ (O.take j) _ HK1.out HO2'.out HO4.out (by omega)).mono ?_; rintro e4 w4 ⟨rfl, q4, rfl⟩)
        go_ret
        exact ⟨rfl, below_drewN HB3.out _⟩
theorem long_any (m : Int) (s : ByteArray) (w : World) : Calls Try.prog 5 #[.int .i64 m, .string s] w fun e w' => e = .returned (.bool true) ∧ Below w.heap.size w w' := by
  by_cases h : s.size ≤ 500 ∧ 1 ≤ m ∧ m ≤ 4096
  · obtain ⟨n, rfl⟩ := Int.eq_ofNat_of_zero_le (show 0 ≤ m by omega)
    have := long_main n s.data.toList w (by omega) (by omega) (by simpa using h.1)
    rwa [mk_eta] at this
  · exact long_out m s w h
end Go.Proofs.Ythgjfdjjnkgicaa
