/-
  The law PipeOrder of reedbedlaw14 returns true; no condition beyond those that each theorem states.
-/
import Derived.Test.YtfndppjicneliaaPlain14
namespace Go.Proofs.Ytfndppjicneliaa
open Go.RowKit Go.Rb
attribute [local irreducible] Go.wpQuiet

theorem mod65 (room : Int) : ∃ (x : Int) (k : Nat), room.tmod 65 = x ∧ -64 ≤ x ∧ x ≤ 64 ∧ (x + 65).tmod 65 = (k : Int) ∧ k ≤ 64 := by
  have h1 : room.tmod 65 ≤ 64 := by have := Int.tmod_lt_of_pos room (show (0:Int) < 65 by omega); omega
  have h2 : -64 ≤ room.tmod 65 := by have := Int.lt_tmod_of_pos room (show (0:Int) < 65 by omega); omega
  refine ⟨_, ((room.tmod 65 + 65).tmod 65).toNat, rfl, h2, h1, ?_, ?_⟩
  · rw [Int.tmod_eq_emod_of_nonneg (by omega)]; omega
  · rw [Int.tmod_eq_emod_of_nonneg (by omega)]; omega
set_option maxRecDepth 20000 in
set_option maxHeartbeats 8000000 in
theorem order_small (room : Int) (bs : List Bool) (A : Option Addr) (n c : Nat) (w : World) (hA : Rd w w.heap.size 1 A n (bs.map Value.bool)) (hc : n ≤ c) (hn : n ≤ 100) :
    Calls Try.prog 3 #[.int .i64 room, .slice A n c] w fun e w' => e = .returned (.bool true) ∧ Below w.heap.size w w' := by
  obtain ⟨x, k, hx, hx1, hx2, hk, hk64⟩ := mod65 room
  have HA := Lib.hid hA
  have HBL := Lib.hid (show bs.length = n by simpa using hA.1)
  have i1 : ¬ (100 : Int) < (n : Int) := by omega
  have HNW := Lib.hid (fun W => new_ok k W hk64)
  clear hA
  go_enter Try.func3, Try.ntmps3
  go_wp2_with fail
  refine (awake_any _).mono ?_
  rintro e1 w1 ⟨rfl, hb1⟩
  have HB1 := Lib.hid hb1
  clear hb1
  go_wp2_with fail
  refine (HNW.out w1).mono ?_
  rintro e2 w2 ⟨rfl, hb2, hr2, hs2⟩
  have HB2 := Lib.hid (below_trans HB1.out hb2)
  have hI2 := In.new (B := w.heap.size) hr2 hs2 HB1.out.size
  rw [gs_new] at hI2
  have HI2 := Lib.hid hI2
  clear hb2 hr2 hs2 hI2
  generalize w1.heap.size = p at *
  unfold pp
  go_wp2_with fail
  go_loopw [7, 8, 9] (fun sv nv iv wr => ∃ i a m : Nat, i ≤ n ∧ a + m ≤ i ∧ sv = .int .i64 ((a + m : Nat) : Int) ∧ nv = .int .i64 (a : Int) ∧ iv = .int .i64 i ∧ In w.heap.size (fun _ => False) wr p (GS k (rng a m) false ((a + m : Nat) : Int)) ∧ Below w.heap.size w wr) (fun _ _ iv _ => n - (intOf iv).toNat)
  case atStart => exact ⟨0, 0, 0, by omega, by omega, rfl, rfl, rfl, HI2.out, HB2.out⟩
  case round =>
    obtain ⟨i, a, m, hi, ham, rfl, rfl, rfl, hin, hbw⟩ := hrel
    have HB := Lib.hid hbw
    have HI := Lib.hid hin
    clear hin hbw
    by_cases hlt : i < n
    · have j1 : (i : Int) < (n : Int) := by omega
      obtain ⟨pa, po, rfl, -, hcell⟩ := (HA.out.below HB.out).2 (by omega)
      have x0 := hcell i (by omega)
      rw [List.getElem?_map, List.getElem?_eq_getElem (by rw [HBL.out]; exact hlt)] at x0
      have X0 : wr.cell? ⟨pa, po + i, none⟩ = some (.bool (bs[i]'(by rw [HBL.out]; exact hlt))) := x0
      generalize bs[i]'(by rw [HBL.out]; exact hlt) = b at *
      clear hcell x0
      cases b with
      | false =>
        obtain ⟨e1, e2, -⟩ := rng_step k a m
        have HSD := Lib.hid (HI.out.send ((a + m : Nat) : Int) (itN ((a + m : Nat) : Int)) (by rw [gs_inn, rng_len]; omega) (by rw [gs_ofs, rng_len]; omega) (by show -1000000 ≤ ((a + m : Nat) : Int) ∧ ((a + m : Nat) : Int) ≤ 1000000; omega))
        rw [e1, e2, itN_v] at HSD
        generalize sendV (GS k (rng a m) false ((a + m : Nat) : Int)) ((a + m : Nat) : Int) = sv at *
        have hsm : ((a + m : Nat) : Int) + 1 = ((a + (m + 1) : Nat) : Int) := by omega
        unfold pp at HSD
        go_wp2_with (go_at_call 9; refine HSD.out.mono ?_; rintro e5 w5 ⟨rfl, hd5⟩; have HD5 := Lib.hid hd5; have HB5 := Lib.hid (HB.out.trans hd5.bel); clear hd5)
        go_roundw
        case rel => exact ⟨i + 1, a, m + 1, by omega, by omega, by rw [← hsm]; push_cast; rfl, rfl, by go_num, HD5.out.inn, HB5.out⟩
        case measure => simp [intOf]; omega
      | true =>
        have HTK := Lib.hid (HI.out.take (by rw [gs_inn, rng_len]; omega))
        cases m with
        | zero =>
          obtain ⟨e1, e2, e3⟩ := gs_none k false ((a + 0 : Nat) : Int)
          rw [show rng a 0 = [] from rfl, e1, e2, e3] at HTK
          rw [show It0.v = .agg #[.int .i64 0, .int .i64 0, .int .i64 0, .int .i64 0, .string ⟨#[]⟩, .slice none 0 0, .int .i64 0] from rfl] at HTK
          simp only [Nat.add_zero, Bool.false_eq_true, if_false] at HTK ⊢
          unfold pp at HTK
          go_wp2_with (go_at_call 10; refine HTK.out.mono ?_; rintro e5 w5 ⟨rfl, hd5⟩; have HD5 := Lib.hid hd5; have HB5 := Lib.hid (HB.out.trans hd5.bel); clear hd5)
          go_roundw
          case rel => exact ⟨i + 1, a, 0, by omega, by omega, rfl, rfl, by go_num, HD5.out.inn.below (below_al (Below.refl _ _) _), HB5.out.alloc HB5.out.size _⟩
          case measure => simp [intOf]; omega
        | succ m =>
          obtain ⟨e1, e2, e3⟩ := gs_take k ((a : Int), itN (a : Int)) (rng (a + 1) m) false ((a + (m + 1) : Nat) : Int)
          rw [rng_cons, e1, e2, e3, itN_v] at HTK
          have hne : ((a : Int) == ((a + (m + 1) : Nat) : Int)) = false := by rw [beq_eq_false_iff_ne]; omega
          have hsm : ((a + (m + 1) : Nat) : Int) = ((a + 1 + m : Nat) : Int) := by omega
          have HE := Lib.hid hsm
          generalize ((a + (m + 1) : Nat) : Int) = z at *
          clear hsm
          unfold pp at HTK
          go_wp2_with (go_at_call 10; refine HTK.out.mono ?_; rintro e5 w5 ⟨rfl, hd5⟩; have HD5 := Lib.hid hd5; have HB5 := Lib.hid (HB.out.trans hd5.bel); clear hd5)
          go_roundw
          case rel => exact ⟨i + 1, a + 1, m, by omega, by omega, by rw [HE.out], by go_num, by go_num, by have := HD5.out.inn.below (below_al (Below.refl _ _) (.cells #[.int .i64 (a : Int), .int .i64 0, .int .i64 0, .int .i64 0, .string ⟨#[]⟩, .slice none 0 0, .int .i64 0] 34)); rw [HE.out] at this; exact this, HB5.out.alloc HB5.out.size _⟩
          case measure => simp [intOf]; omega
    · have j1 : ¬ (i : Int) < (n : Int) := by omega
      have HIT := Lib.hid (HI.out.items (by rw [gs_inn, rng_len]; omega) (by rw [gs_ofs, rng_len]; omega))
      rw [gs_sum, rng_len] at HIT
      unfold pp at HIT
      obtain ⟨z, hz⟩ : ∃ z : Int, ((a + m : Nat) : Int) = z := ⟨_, rfl⟩
      rw [hz] at HI HIT ⊢
      have hlen : z - (a : Int) = (m : Int) := by omega
      have hz1 : 0 ≤ z := by omega
      have hz2 : z ≤ 1000 := by omega
      clear hz
      go_wp2_with fail
      refine HIT.out.mono ?_
      rintro e5 w5 ⟨v5, rfl, ho5, -, hd5, -⟩
      obtain ⟨A5, c5, rfl, -, -⟩ := ho5.len_
      have HB5 := Lib.hid (HB.out.trans hd5.bel)
      have HSN := Lib.hid hd5.inn.sent
      rw [show (GS k (rng a m) false z).sent = z from rfl] at HSN
      unfold pp at HSN
      clear ho5 hd5
      go_wp2_with (go_at_call 12; refine HSN.out.mono ?_; rintro e6 w6 ⟨rfl, rfl⟩)
      go_ret
      exact ⟨rfl, HB5.out⟩
end Go.Proofs.Ytfndppjicneliaa
