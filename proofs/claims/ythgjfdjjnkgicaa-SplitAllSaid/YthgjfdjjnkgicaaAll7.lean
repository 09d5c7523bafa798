/-
  The law 'all records' (SplitAll): its walk; no condition beyond those that each theorem states.
-/
import Derived.Test.YthgjfdjjnkgicaaAwake7
namespace Go.Proofs.Ythgjfdjjnkgicaa
open Go.RowKit Go.Rb
attribute [local irreducible] Go.wpQuiet

set_option maxHeartbeats 4000000 in
theorem splitAll_big (m : Int) (s : ByteArray) (w : World) (h : ¬ s.size ≤ 1000) : Calls Try.prog 3 #[.int .i64 m, .string s] w fun e w' => e = .returned (.bool true) ∧ Below w.heap.size w w' := by
  have HA : Hid (∀ w, Calls Try.prog 7 #[] w fun e w' => e = .returned (.bool true) ∧ Below w.heap.size w w') := awake_any
  have i1 : (1000 : Int) < (s.size : Int) := by omega
  clear h
  go_enter Try.func3, Try.ntmps3
  go_wp2_with (first
    | (go_at_call 7; refine (HA.out _).mono ?_; rintro e2 w2 ⟨rfl, hb2⟩; have HB2 := Lib.hid (below_trans HB1.out hb2); clear hb2)
    | (go_at_call 7; refine (HA.out _).mono ?_; rintro e1 w1 ⟨rfl, hb1⟩; have HB1 := Lib.hid hb1; clear hb1))
  go_ret
  exact ⟨rfl, HB2.out⟩
set_option maxHeartbeats 4000000 in
theorem splitAll_bad (m : Int) (s : ByteArray) (w : World) (hs : s.size ≤ 1000) (h : m < 1 ∨ 4096 < m) : Calls Try.prog 3 #[.int .i64 m, .string s] w fun e w' => e = .returned (.bool true) ∧ Below w.heap.size w w' := by
  have HA : Hid (∀ w, Calls Try.prog 7 #[] w fun e w' => e = .returned (.bool true) ∧ Below w.heap.size w w') := awake_any
  have HX := Lib.hid (fun w => all_bad m (.string s) w h)
  have i1 : ¬ (1000 : Int) < (s.size : Int) := by omega
  have h4 : ¬ m < 1 → 4096 < m := by omega
  clear hs h
  by_cases h3 : m < 1
  case' neg => have h5 := h4 h3
  all_goals clear h4
  all_goals
    go_enter Try.func3, Try.ntmps3
    go_wp2_with (first
      | (go_at_call 7; refine (HA.out _).mono ?_; rintro e1 w1 ⟨rfl, hb1⟩; have HB1 := Lib.hid hb1; clear hb1)
      | (go_at_call 8; refine (HX.out _).mono ?_; rintro e2 w2 ⟨rfl, rfl⟩))
    go_ret
    exact ⟨rfl, HB1.out⟩
set_option maxHeartbeats 4000000 in
theorem splitAll_main (n : Nat) (x : List UInt8) (w : World) (h1 : 1 ≤ n) (h2 : n ≤ 4096) (hx : x.length ≤ 1000) : Calls Try.prog 3 #[.int .i64 (n : Int), .string (mk x)] w fun e w' => e = .returned (.bool true) ∧ Below w.heap.size w w' := by
  have HA : Hid (∀ w, Calls Try.prog 7 #[] w fun e w' => e = .returned (.bool true) ∧ Below w.heap.size w w') := awake_any
  have HX := Lib.hid (fun w => all_any n x w h1 h2 (by omega))
  have HR := Lib.hid (fun w => ref_any true n x w h1 h2 (by omega))
  have e1 : (rf true n x).1 = (al n x).1 := rfl
  have e2 : (rf true n x).2.1 = (al n x).2 := rfl
  rw [e1, e2] at HR
  clear e1 e2
  have hl := al_len n x
  generalize al n x = R at *
  obtain ⟨O, E⟩ := R
  simp only at HX HR hl
  have hz := mk_size x
  have i1 : ¬ (1000 : Int) < (x.length : Int) := by omega
  have i2 : ¬ (n : Int) < 1 := by omega
  have i3 : ¬ (4096 : Int) < (n : Int) := by omega
  obtain ⟨k, hk⟩ : ∃ k, O.length = k := ⟨_, rfl⟩
  have hk2 : k ≤ 1001 := by omega
  have HK := Lib.hid hk
  rw [hk] at HX HR
  clear hl hk h1 h2
  generalize mk x = b at *
  generalize x.length = lx at *
  go_enter Try.func3, Try.ntmps3
  go_wp2_with (first
    | (go_at_call 7; refine (HA.out _).mono ?_; rintro e1 w1 ⟨rfl, hb1⟩; have HB1 := Lib.hid hb1; clear hb1)
    | (go_at_call 8; refine (HX.out _).mono ?_; rintro e2 w2 ⟨v2, rfl, hown2, -, hb2⟩; obtain ⟨A2, c2, rfl, -, -⟩ := hown2.len_; have HB2 := Lib.hid (below_trans HB1.out hb2); have HO2 := Lib.hid hown2; clear hb2 hown2)
    | (go_at_call 9; refine (HR.out _).mono ?_; rintro e3 w3 ⟨v3, rfl, hown3, -, hb3⟩; obtain ⟨A3, c3, rfl, -, -⟩ := hown3.len_; have HB3 := Lib.hid (below_trans HB2.out hb3); have HO3 := Lib.hid hown3; have HO23 := Lib.hid (HO2.out.below hb3 (fun k hk => HO2.out.lt hk)); clear hb3 hown3)
    | (go_at_call 10; refine (same_any _ _ _ _ _ _ _ O _ HK.out HO23.out.rd HO3.out.rd (by omega)).mono ?_; rintro e4 w4 ⟨rfl, q4, rfl⟩))
  go_ret
  exact ⟨by simp, below_drewN HB3.out _⟩
theorem splitAll_any (m : Int) (s : ByteArray) (w : World) : Calls Try.prog 3 #[.int .i64 m, .string s] w fun e w' => e = .returned (.bool true) ∧ Below w.heap.size w w' := by
  by_cases h : s.size ≤ 1000
  · by_cases hm : m < 1 ∨ 4096 < m
    · exact splitAll_bad m s w h hm
    · obtain ⟨n, rfl⟩ := Int.eq_ofNat_of_zero_le (show 0 ≤ m by omega)
      have := splitAll_main n s.data.toList w (by omega) (by omega) (by simpa using h)
      rwa [mk_eta] at this
  · exact splitAll_big m s w h
end Go.Proofs.Ythgjfdjjnkgicaa
