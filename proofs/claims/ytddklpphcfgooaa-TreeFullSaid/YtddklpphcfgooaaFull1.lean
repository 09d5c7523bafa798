/-
  The walk of reedbedlaw15.TreeFull: it returns true; no condition beyond those that each theorem states.
-/
import Derived.Test.YtddklpphcfgooaaTree5
namespace Go.Proofs.Ytddklpphcfgooaa
open Go.RowKit Go.Rb

theorem cause_new {s : TS} {p : Nat} (h : Tr s) (hp : p < s.n) : causeO (addS s p) (s.n : Int) = s.ca.getD p 0 ∧ causeO (addS s p) (p : Int) = s.ca.getD p 0 := by
  have hn : (addS s p).n = s.n + 1 := by simp [addS, TS.n]
  have hc := h.cl
  unfold causeO
  rw [if_pos ⟨by omega, by rw [hn]; omega⟩, if_pos ⟨by omega, by rw [hn]; omega⟩, Int.toNat_natCast, Int.toNat_natCast]
  exact ⟨getD_snoc_eq hc.symm, getD_snoc_lt (by omega)⟩
theorem addS_n (s : TS) (p : Nat) : (addS s p).n = s.n + 1 := by simp [addS, TS.n]

set_option maxRecDepth 20000 in
set_option maxHeartbeats 2000000 in
theorem full_any (at_ : Nat) (w : World) (ha : at_ < 256) : Calls Try.prog 3 #[.int .u8 (at_ : Int)] w fun e w' => e = .returned (.bool true) ∧ Below w.heap.size w w' := by
  have hA : Hid (∀ w, Calls Try.prog 7 #[] w fun e w' => e = .returned (.bool true) ∧ Below w.heap.size w w') := awake_any
  have hN : Hid (∀ W, Below w.heap.size w W → Calls Try.prog 8 #[] W fun e w' => ∃ t, e = .returned (.pointer (some ⟨t, 0, none⟩)) ∧ Below W.heap.size W w' ∧ TI w.heap.size NoT w' t rootS) :=
    fun W hW => new_in (B := w.heap.size) W NoT (fun _ h => h.elim) hW.size
  go_enter Try.func3, Try.ntmps3
  go_wp2_with (first
    | (go_at_call 7; refine (hA.out _).mono ?_; rintro e1 w1 ⟨rfl, hb1⟩; have HB1 := Lib.hid hb1; clear hb1)
    | (go_at_call 8; refine (hN.out _ HB1.out).mono ?_; rintro e2 w2 ⟨t, rfl, hb2, hi2⟩; have HB2 := Lib.hid (below_trans HB1.out hb2); have HI2 := Lib.hid hi2; clear hb2 hi2))
  go_loopw [4] (fun i wr => ∃ s : TS, i = .int .i64 (s.n : Int) ∧ 1 ≤ s.n ∧ s.n ≤ 256 ∧ Below w.heap.size w wr ∧ TI w.heap.size NoT wr t s) (fun i _ => 256 - (intOf i).toNat)
  case atStart => exact ⟨rootS, rfl, by decide, by decide, HB2.out, HI2.out⟩
  case round =>
    obtain ⟨s, rfl, hn1, hn2, hbw, hin⟩ := hrel
    by_cases hlt : s.n < 256
    · have i5 : (s.n : Int) < 256 := by omega
      have ed : (s.n : Int).tdiv 2 = ((s.n / 2 : Nat) : Int) := by rw [Int.tdiv_eq_ediv_of_nonneg (by omega)]; omega
      have hp : s.n / 2 < s.n := by omega
      have hAdd : Hid (∀ W s', s'.n = s.n → TI w.heap.size NoT W t s' → Calls Try.prog 10 #[.pointer (some ⟨t, 0, none⟩), .int .i64 ((s.n / 2 : Nat) : Int)] W fun e w' => e = .returned (.tuple #[.int .i64 (s.n : Int), .int .i64 0]) ∧ TDid w.heap.size NoT W t (addS s' (s.n / 2)) w') :=
        fun W s' hs h => by have := add_in h (s.n / 2) (by omega) (by omega); rw [hs] at this; exact this
      have hC : Hid (∀ W s' (i : Int), TI w.heap.size NoT W t (addS s' (s.n / 2)) → Calls Try.prog 11 #[.pointer (some ⟨t, 0, none⟩), .int .i64 i] W fun e w' => e = .returned (.int .i64 (causeO (addS s' (s.n / 2)) i)) ∧ W = w') :=
        fun W s' i h => cause_in h i
      have hCE : Hid (∀ s', s'.n = s.n → Tr s' → causeO (addS s' (s.n / 2)) (s.n : Int) = s'.ca.getD (s.n / 2) 0 ∧ causeO (addS s' (s.n / 2)) ((s.n / 2 : Nat) : Int) = s'.ca.getD (s.n / 2) 0) :=
        fun s' hs h => by have := cause_new (p := s.n / 2) h (by omega); rw [hs] at this; exact this
      by_cases hat : s.n = at_
      · have hCan : Hid (Calls Try.prog 9 #[.pointer (some ⟨t, 0, none⟩), .int .i64 ((s.n / 2 : Nat) : Int), .int .i64 14] wr fun e w' => ∃ (k : Nat) (s' : TS), e = .returned (.tuple #[.int .i64 (k : Int), .int .i64 0]) ∧ s'.n = s.n ∧ TDid w.heap.size NoT wr t s' w') :=
          (cancel_in hin (s.n / 2) 14 hp (by decide)).mono fun e w' ⟨k, ca', h1, _, _, h4⟩ => ⟨k, s.wca ca', h1, rfl, h4⟩
        have HB := Lib.hid hbw; have HI := Lib.hid hin
        clear hbw hin
        subst hat
        generalize hq : s.n / 2 = q at *
        generalize hn : s.n = n at *
        go_wp2_with (first
          | (go_at_call 11; refine (hC.out _ _ _ HI6.out).mono ?_; rintro e7 w7 ⟨rfl, rfl⟩; first | rw [(hCE.out _ HS5.out HI5.out.tr).1] | rw [(hCE.out _ HS5.out HI5.out.tr).2])
          | (go_at_call 10; refine (hAdd.out _ _ HS5.out HI5.out).mono ?_; rintro e6 w6 ⟨rfl, hd6⟩; have HB6 := Lib.hid (HB5.out.trans (hd6.below HI5.out.1)); have HI6 := Lib.hid hd6.1; clear hd6)
          | (go_at_call 9; refine hCan.out.mono ?_; rintro e5 w5 ⟨k5, s5, rfl, hs5, hd5⟩; have HB5 := Lib.hid (HB.out.trans (hd5.below HI.out.1)); have HI5 := Lib.hid hd5.1; have HS5 := Lib.hid hs5; clear hd5 hs5))
        go_roundw
        case rel => exact ⟨addS s5 q, by rw [addS_n, HS5.out]; go_num, by rw [addS_n, HS5.out]; omega, by rw [addS_n, HS5.out]; omega, HB6.out, HI6.out⟩
        case measure => simp [intOf]; omega
      · have hab : ((s.n : Int) == (at_ : Int)) = false := by rw [beq_eq_false_iff_ne]; omega
        have HB5 := Lib.hid hbw; have HI5 := Lib.hid hin
        have HS5 : Hid (s.n = s.n) := rfl
        clear hbw hin
        generalize hq : s.n / 2 = q at *
        generalize hn : s.n = n at *
        go_wp2_with (first
          | (go_at_call 11; refine (hC.out _ _ _ HI6.out).mono ?_; rintro e7 w7 ⟨rfl, rfl⟩; first | rw [(hCE.out _ hn HI5.out.tr).1] | rw [(hCE.out _ hn HI5.out.tr).2])
          | (go_at_call 10; refine (hAdd.out _ _ hn HI5.out).mono ?_; rintro e6 w6 ⟨rfl, hd6⟩; have HB6 := Lib.hid (HB5.out.trans (hd6.below HI5.out.1)); have HI6 := Lib.hid hd6.1; clear hd6))
        go_roundw
        case rel => exact ⟨addS s q, by rw [addS_n, hn]; go_num, by rw [addS_n, hn]; omega, by rw [addS_n, hn]; omega, HB6.out, HI6.out⟩
        case measure => simp [intOf]; omega
    · have hn : s.n = 256 := by omega
      have hAdd : Hid (Calls Try.prog 10 #[.pointer (some ⟨t, 0, none⟩), .int .i64 0] wr fun e w' => e = .returned (.tuple #[.int .i64 0, .int .i64 16]) ∧ wr = w') := addfull_in hin 0 ⟨by omega, by omega⟩ hlt
      have hSz : Hid (Calls Try.prog 12 #[.pointer (some ⟨t, 0, none⟩)] wr fun e w' => e = .returned (.int .i64 (s.n : Int)) ∧ wr = w') := size_in hin
      have HB := Lib.hid hbw
      clear hbw hin
      rw [hn] at hSz ⊢
      go_wp2_with (first
        | (go_at_call 10; refine hAdd.out.mono ?_; rintro e3 w3 ⟨rfl, rfl⟩)
        | (go_at_call 12; refine hSz.out.mono ?_; rintro e3 w3 ⟨rfl, rfl⟩))
      go_ret
      exact ⟨rfl, HB.out⟩
theorem full_any8 (a : Int) (w : World) (h0 : 0 ≤ a) (h1 : a < 256) : Calls Try.prog 3 #[.int .u8 a] w fun e w' => e = .returned (.bool true) ∧ Below w.heap.size w w' := by
  obtain ⟨k, rfl⟩ := Int.eq_ofNat_of_zero_le h0
  exact full_any k w (by omega)
end Go.Proofs.Ytddklpphcfgooaa
