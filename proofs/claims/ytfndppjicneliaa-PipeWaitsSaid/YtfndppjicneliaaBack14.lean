/-
  The law PipeBack of reedbedlaw14 returns true; no condition beyond those that each theorem states.
-/
import Derived.Test.YtfndppjicneliaaPlain14
namespace Go.Proofs.Ytfndppjicneliaa
open Go.RowKit Go.Rb
attribute [local irreducible] Go.wpQuiet

theorem rng_add (a p : Nat) : ∀ q, rng a (p + q) = rng a p ++ rng (a + p) q
  | 0 => by simp [rng]
  | q + 1 => by rw [← Nat.add_assoc, rng_snoc, rng_add a p q, rng_snoc, List.append_assoc, Nat.add_assoc]
theorem rng_ne {a m g : Nat} (h : g < a ∨ a + m ≤ g) : ∀ o ∈ rng a m, o.1 ≠ (g : Int) := by
  intro o ho
  unfold rng at ho
  rw [List.mem_map] at ho
  obtain ⟨j, hj, rfl⟩ := ho
  rw [List.mem_range] at hj
  show ((a + j : Nat) : Int) ≠ _
  omega
/-- What is left at round i, where the one that is gone was taken back. -/
def LL (k gone m i : Nat) : List Of := if k ≤ gone ∧ i ≤ gone then rng i (gone - i) ++ rng (gone + 1) (m - (gone + 1)) else rng i (m - i)
theorem ll_skip {k gone m : Nat} (h : k ≤ gone) : LL k gone m gone = LL k gone m (gone + 1) := by
  unfold LL
  rw [if_pos ⟨h, Nat.le_refl _⟩, if_neg (by omega), Nat.sub_self]
  rfl
theorem ll_take {k gone m i : Nat} (hi : i < m) (h : ¬ (i = gone ∧ k ≤ gone)) : LL k gone m i = ((i : Int), itN (i : Int)) :: LL k gone m (i + 1) := by
  unfold LL
  by_cases h1 : k ≤ gone ∧ i ≤ gone
  · rw [if_pos h1, if_pos (by omega), show gone - i = (gone - (i + 1)) + 1 from by omega, rng_cons]
    rfl
  · rw [if_neg h1, if_neg (by omega), show m - i = (m - (i + 1)) + 1 from by omega, rng_cons]
theorem ll_end {k gone m : Nat} (h : gone < m) : LL k gone m m = [] := by
  unfold LL
  rw [if_neg (by omega), Nat.sub_self]
  rfl
theorem ll_len (k gone m i : Nat) : (LL k gone m i).length ≤ m + gone + 1 := by
  unfold LL
  split
  · rw [List.length_append, rng_len, rng_len]; omega
  · rw [rng_len]; omega
/-- The first time it is taken back. -/
theorem back1 {k gone m : Nat} (h : gone < m) (n : Int) : waitsO (GS k (rng 0 m) false n) (gone : Int) = decide (k ≤ gone) ∧ ∃ z, wdS (GS k (rng 0 m) false n) (gone : Int) = GS k (LL k gone m 0) false z ∧ (n - 1 ≤ z ∧ z ≤ n) := by
  have hw : waitsO (GS k (rng 0 m) false n) (gone : Int) = decide (k ≤ gone) := by
    rw [rng_waits, decide_eq_decide]; omega
  refine ⟨hw, ?_⟩
  by_cases hk : k ≤ gone
  · have hl : gone - k < ((rng 0 m).drop k).length := by simp [rng_len]; omega
    have hget : ∀ j, (hj : j < ((rng 0 m).drop k).length) → ((rng 0 m).drop k)[j].1 = ((k + j : Nat) : Int) := fun j hj => by
      have hj' : k + j < m := by simp [rng_len] at hj; omega
      have e := rng_get (a := 0) hj'
      rw [List.getElem?_eq_getElem (by rw [rng_len]; exact hj')] at e
      simp only [Option.some.injEq] at e
      rw [List.getElem_drop, e, Nat.zero_add]
    have ha : atI ((rng 0 m).drop k) (gone : Int) = ((gone - k : Nat) : Int) := atI_some hl (by rw [hget]; omega) (fun j hj hjk => by rw [hget]; omega)
    obtain ⟨h1, -⟩ := gs_wd k (rng 0 m) false n (gone : Int) (gone - k) hl ha
    refine ⟨n - 1, ?_, by omega, by omega⟩
    · rw [h1]
      have e1 : k + (gone - k) = gone := by omega
      rw [e1]
      have e2 : (rng 0 m).eraseIdx gone = LL k gone m 0 := by
        unfold LL
        rw [if_pos ⟨hk, Nat.zero_le _⟩, Nat.sub_zero]
        have e3 : rng 0 m = rng 0 gone ++ (((gone : Nat) : Int), itN ((gone : Nat) : Int)) :: rng (gone + 1) (m - (gone + 1)) := by
          have := rng_add 0 gone (m - (gone + 1) + 1)
          rw [show gone + (m - (gone + 1) + 1) = m from by omega, rng_cons, Nat.zero_add] at this
          exact this
        rw [e3, List.eraseIdx_append_of_length_le (by rw [rng_len]; exact Nat.le_refl _), rng_len, Nat.sub_self]
        rfl
      rw [e2]
  · rw [gs_wd_no _ _ _ _ _ (by rw [hw]; simpa using hk)]
    refine ⟨n, ?_, by omega, by omega⟩
    unfold LL
    rw [if_neg (by omega), Nat.sub_zero]
/-- The second time. -/
theorem back2 {k gone m : Nat} (h : gone < m) (z : Int) : waitsO (GS k (LL k gone m 0) false z) (gone : Int) = false ∧ wdS (GS k (LL k gone m 0) false z) (gone : Int) = GS k (LL k gone m 0) false z := by
  have hw : waitsO (GS k (LL k gone m 0) false z) (gone : Int) = false := by
    unfold LL
    split
    · rename_i hk
      rw [Bool.eq_false_iff]
      intro hh
      obtain ⟨o, ho, he⟩ := (waits_iff _ _).1 hh
      have ho := List.mem_of_mem_drop (show o ∈ (rng 0 (gone - 0) ++ rng (gone + 1) (m - (gone + 1))).drop k from ho)
      rw [List.mem_append] at ho
      rcases ho with ho | ho
      · exact rng_ne (by omega) o ho he
      · exact rng_ne (by omega) o ho he
    · rw [Nat.sub_zero, rng_waits, decide_eq_false_iff_not]; omega
  exact ⟨hw, gs_wd_no _ _ _ _ _ hw⟩
theorem tmodN {a : Int} (h : 0 ≤ a) {d : Nat} (hd : 0 < d) : ∃ k : Nat, a.tmod (d : Int) = (k : Int) ∧ k < d := by
  refine ⟨(a.tmod (d : Int)).toNat, ?_, ?_⟩
  · have := Int.tmod_nonneg (d : Int) h; omega
  · have := Int.tmod_lt_of_pos a (show (0 : Int) < (d : Int) by omega)
    have := Int.tmod_nonneg (d : Int) h; omega
set_option maxRecDepth 20000 in
set_option maxHeartbeats 8000000 in
theorem back_any (room n at_ : Int) (hr : 0 ≤ room ∧ room ≤ 255) (hn : 0 ≤ n ∧ n ≤ 255) (hat : 0 ≤ at_ ∧ at_ ≤ 255) (w : World) :
    Calls Try.prog 4 #[.int .u8 room, .int .u8 n, .int .u8 at_] w fun e w' => e = .returned (.bool true) ∧ Below w.heap.size w w' := by
  obtain ⟨k, hk, hk10⟩ := tmodN hr.1 (d := 10) (by omega)
  obtain ⟨q, hq, hq20⟩ := tmodN hn.1 (d := 20) (by omega)
  obtain ⟨m, hm⟩ : ∃ m : Nat, m = 1 + q := ⟨_, rfl⟩
  obtain ⟨gone, hg, hgm⟩ := tmodN hat.1 (d := m) (by omega)
  have hm1 : (1 : Int) + (q : Int) = (m : Int) := by omega
  have hk' : room.tmod 10 = (k : Int) := hk
  have hq' : n.tmod 20 = (q : Int) := hq
  have hm20 : m ≤ 20 := by omega
  have hm0 : 0 < m := by omega
  obtain ⟨hr1, hr2⟩ := hr
  obtain ⟨hn1, hn2⟩ := hn
  obtain ⟨ha1, ha2⟩ := hat
  have HNW := Lib.hid (fun W => new_ok k W (by omega))
  clear hk hq hm
  go_enter Try.func4, Try.ntmps4
  go_wp2_with fail
  refine (awake_any _).mono ?_
  rintro e1 w1 ⟨rfl, hb1⟩
  have HB1 := Lib.hid hb1
  clear hb1
  go_wp2_with fail
  refine (HNW.out w1).mono ?_
  rintro e2 w2 ⟨rfl, hb2, hr2, hs2⟩
  have HB2 := Lib.hid (below_trans HB1.out hb2)
  have hI2 := In.new (B := w.heap.size) hr2 hs2 HB1.out.size
  rw [gs_new] at hI2
  have HI2 := Lib.hid hI2
  clear hb2 hr2 hs2 hI2 hq'
  generalize w1.heap.size = p at *
  unfold pp
  go_wp2_with fail
  go_loopw [11] (fun iv wr => ∃ i : Nat, i ≤ m ∧ iv = .int .i64 i ∧ In w.heap.size (fun _ => False) wr p (GS k (rng 0 i) false (i : Int)) ∧ Below w.heap.size w wr) (fun iv _ => m - (intOf iv).toNat)
  case atStart => exact ⟨0, by omega, rfl, HI2.out, HB2.out⟩
  case round =>
    obtain ⟨i, hi, rfl, hin, hbw⟩ := hrel
    have HB := Lib.hid hbw
    have HI := Lib.hid hin
    clear hin hbw
    by_cases hlt : i < m
    · have j1 : (i : Int) < (m : Int) := by omega
      have e1 := rng_step k 0 i
      rw [Nat.zero_add, Nat.zero_add] at e1
      obtain ⟨e1, -, -⟩ := e1
      have HSD := Lib.hid (HI.out.send (i : Int) (itN (i : Int)) (by rw [gs_inn, rng_len]; omega) (by rw [gs_ofs, rng_len]; omega) (by show -1000000 ≤ (i : Int) ∧ (i : Int) ≤ 1000000; omega))
      rw [e1, itN_v] at HSD
      clear e1
      generalize sendV (GS k (rng 0 i) false (i : Int)) (i : Int) = sv at *
      generalize sendE (GS k (rng 0 i) false (i : Int)) (i : Int) = se at *
      unfold pp at HSD
      go_wp2_with (go_at_call 9; refine HSD.out.mono ?_; rintro e5 w5 ⟨rfl, hd5⟩; have HD5 := Lib.hid hd5; have HB5 := Lib.hid (HB.out.trans hd5.bel); clear hd5)
      go_roundw
      case rel => exact ⟨i + 1, by omega, by go_num, HD5.out.inn, HB5.out⟩
      case measure => simp [intOf]; omega
    · have j1 : ¬ (i : Int) < (m : Int) := by omega
      have e : i = m := by omega
      have HI3 : Hid (In w.heap.size (fun _ => False) wr p (GS k (rng 0 m) false (m : Int))) := by rw [← e]; exact HI.out
      obtain ⟨b1, z, b2, hz1, hz2⟩ := back1 (k := k) hgm (m : Int)
      have HW1 := Lib.hid (HI3.out.withdraw (gone : Int) (by rw [gs_ofs, rng_len]; omega) (by show -1000000 ≤ (m : Int) ∧ (m : Int) ≤ 1000000; omega))
      rw [b1, b2] at HW1
      have b3 := back2 (k := k) hgm z
      have B3 := Lib.hid b3
      have HZ : Hid (-1000000 ≤ z ∧ z ≤ 1000000) := (by omega : -1000000 ≤ z ∧ z ≤ 1000000)
      clear b1 b2 b3 hz1 hz2 e HI
      obtain ⟨dk, hdk⟩ : ∃ dk, decide (k ≤ gone) = dk := ⟨_, rfl⟩
      rw [hdk] at HW1
      unfold pp at HW1
      go_wp2_with fail
      refine HW1.out.mono ?_
      rintro e6 w6 ⟨rfl, hd6⟩
      have HB6 := Lib.hid (HB.out.trans hd6.bel)
      have HW2 := Lib.hid (hd6.inn.withdraw (gone : Int) (by rw [gs_ofs]; have := ll_len k gone m 0; omega) HZ.out)
      rw [B3.out.1, B3.out.2] at HW2
      unfold pp at HW2
      clear hd6
      go_wp2_with fail
      refine HW2.out.mono ?_
      rintro e7 w7 ⟨rfl, hd7⟩
      have HB7 := Lib.hid (HB6.out.trans hd7.bel)
      have HI7 := Lib.hid hd7.inn
      clear hd7 hdk
      go_wp2_with fail
      go_loopw [13] (fun iv wr => ∃ i : Nat, i ≤ m ∧ iv = .int .i64 i ∧ In w.heap.size (fun _ => False) wr p (GS k (LL k gone m i) false z) ∧ Below w.heap.size w wr) (fun iv _ => m - (intOf iv).toNat)
      case atStart => exact ⟨0, by omega, rfl, HI7.out, HB7.out⟩
      case round =>
        obtain ⟨i, hi, rfl, hin, hbw⟩ := hrel
        have HB := Lib.hid hbw
        have HI := Lib.hid hin
        clear hin hbw
        by_cases hlt : i < m
        · have j1 : (i : Int) < (m : Int) := by omega
          by_cases hsk : i = gone ∧ k ≤ gone
          · obtain ⟨rfl, hkg⟩ := hsk
            have HL := Lib.hid (ll_skip (m := m) hkg)
            have j2 : (k : Int) ≤ (i : Int) := by omega
            go_wp2_with fail
            go_roundw
            case rel => exact ⟨i + 1, by omega, by go_num, by rw [← HL.out]; exact HI.out, HB.out⟩
            case measure => simp [intOf]; omega
          · have HL := Lib.hid (ll_take hlt hsk)
            have HTK := Lib.hid (HI.out.take (by rw [gs_inn]; have := ll_len k gone m i; omega))
            obtain ⟨e1, e2, e3⟩ := gs_take k ((i : Int), itN (i : Int)) (LL k gone m (i + 1)) false z
            rw [HL.out, e1, e2, e3, itN_v] at HTK
            clear e1 e2 e3
            unfold pp at HTK
            by_cases e : i = gone
            · have hkg : ¬ k ≤ i := fun h => hsk ⟨e, by rw [← e]; exact h⟩
              subst e
              have j3 : ¬ (k : Int) ≤ (i : Int) := by omega
              go_wp2_with (go_at_call 10; refine HTK.out.mono ?_; rintro e8 w8 ⟨rfl, hd8⟩; have HD8 := Lib.hid hd8; have HB8 := Lib.hid (HB.out.trans hd8.bel); clear hd8)
              go_roundw
              case rel => exact ⟨i + 1, by omega, by go_num, HD8.out.inn.below (below_al (Below.refl _ _) _), HB8.out.alloc HB8.out.size _⟩
              case measure => simp [intOf]; omega
            · have j4 : ((i : Int) == (gone : Int)) = false := by rw [beq_eq_false_iff_ne]; omega
              go_wp2_with (go_at_call 10; refine HTK.out.mono ?_; rintro e8 w8 ⟨rfl, hd8⟩; have HD8 := Lib.hid hd8; have HB8 := Lib.hid (HB.out.trans hd8.bel); clear hd8)
              go_roundw
              case rel => exact ⟨i + 1, by omega, by go_num, HD8.out.inn.below (below_al (Below.refl _ _) _), HB8.out.alloc HB8.out.size _⟩
              case measure => simp [intOf]; omega
        · have j1 : ¬ (i : Int) < (m : Int) := by omega
          have e : i = m := by omega
          have HTK := Lib.hid (HI.out.take (by rw [gs_inn]; have := ll_len k gone m i; omega))
          obtain ⟨e1, e2, e3⟩ := gs_none k false z
          rw [e, ll_end hgm, e1, e2, e3] at HTK
          rw [show It0.v = .agg #[.int .i64 0, .int .i64 0, .int .i64 0, .int .i64 0, .string ⟨#[]⟩, .slice none 0 0, .int .i64 0] from rfl] at HTK
          simp only [Bool.false_eq_true, if_false] at HTK
          unfold pp at HTK
          clear e e1 e2 e3
          go_wp2_with fail
          refine HTK.out.mono ?_
          rintro e8 w8 ⟨rfl, hd8⟩
          have HB8 := Lib.hid (HB.out.trans hd8.bel)
          clear hd8
          go_wp2_with fail
          go_ret
          exact ⟨rfl, HB8.out.alloc HB8.out.size _⟩
end Go.Proofs.Ytfndppjicneliaa
