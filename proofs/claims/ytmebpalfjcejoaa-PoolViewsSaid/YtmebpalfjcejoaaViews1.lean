/-
  The walk of reedbedlaw06.PoolViews: it returns true; no condition beyond those that each theorem states.
-/
import Derived.Test.YtmebpalfjcejoaaPool6
namespace Go.Proofs.Ytmebpalfjcejoaa
open Go.RowKit Go.Rb

/-- One buffer, held h times, with octets b. -/
def oneS (h : Nat) (b : List UInt8) : PS := ⟨[h], [b], [], 100⟩
theorem one_held (h : Nat) (b : List UInt8) (hh : 0 < h) : heldB (oneS h b) 0 := ⟨by omega, by simp [oneS], by simpa [oneS] using hh⟩
theorem one_hold (h : Nat) (b : List UInt8) (hh : 0 < h) : turnE (oneS h b) 0 = 0 ∧ holdS (oneS h b) 0 = oneS (h + 1) b := by
  have := one_held h b hh
  exact ⟨by rw [turnE, if_pos this], by rw [holdS, if_pos this]; rfl⟩
theorem one_drop (h : Nat) (b : List UInt8) (hh : 0 < h) : turnE (oneS (h + 1) b) 0 = 0 ∧ dropS (oneS (h + 1) b) 0 = oneS h b := by
  have := one_held (h + 1) b (by omega)
  refine ⟨by rw [turnE, if_pos this], ?_⟩
  have h1 : ¬ hOf (oneS (h + 1) b) 0 = 1 := by show ¬ h + 1 = 1; omega
  rw [dropS, if_pos this, if_neg h1]; rfl
theorem one_drop1 (b : List UInt8) : turnE (oneS 1 b) 0 = 0 ∧ dropS (oneS 1 b) 0 = ⟨[0], [[]], [0], 100⟩ := by
  have := one_held 1 b (by omega)
  exact ⟨by rw [turnE, if_pos this], by rw [dropS, if_pos this, if_pos (show hOf (oneS 1 b) 0 = 1 from rfl)]; rfl⟩
theorem one_fill (b c : List UInt8) (hc : c.length ≤ 100) : fillE (oneS 1 b) 0 c = 0 ∧ fillS (oneS 1 b) 0 c = oneS 1 c := by
  have := one_held 1 b (by omega)
  have e : fillE (oneS 1 b) 0 c = 0 := by
    rw [fillE, if_pos this, if_neg (show ¬ 1 < hOf (oneS 1 b) 0 by show ¬ 1 < 1; omega), if_neg (show ¬ (oneS 1 b).size < c.length by show ¬ 100 < c.length; omega)]
  exact ⟨e, by rw [fillS, if_pos e]; rfl⟩
theorem one_busy (h : Nat) (b c : List UInt8) (hh : 1 < h) : fillE (oneS h b) 0 c = 18 ∧ fillS (oneS h b) 0 c = oneS h b := by
  have := one_held h b (by omega)
  have e : fillE (oneS h b) 0 c = 18 := by rw [fillE, if_pos this, if_pos (show 1 < hOf (oneS h b) 0 from hh)]
  exact ⟨e, by rw [fillS, if_neg (by rw [e]; decide)]⟩
theorem one_view (h : Nat) (b : List UInt8) (hh : 0 < h) : viewO (oneS h b) 0 0 (b.length : Int) = b ∧ viewE (oneS h b) 0 0 (b.length : Int) = 0 := by
  have : viewOk (oneS h b) 0 0 (b.length : Int) := ⟨one_held h b hh, by omega, by omega, by show _ ≤ ((b.length : Nat) : Int); omega⟩
  refine ⟨?_, by rw [viewE, if_pos this]⟩
  rw [viewO, if_pos this]
  show (b.drop 0).take (((b.length : Nat) : Int).toNat - 0) = b
  simp
theorem one_holds (h : Nat) (b : List UInt8) (hh : 0 < h) : holdsO (oneS h b) 0 = h := by
  rw [holdsO, if_pos (one_held h b hh)]; rfl

set_option maxHeartbeats 4000000 in
theorem views_small (A C : Option Addr) (n c m d : Nat) (bs cs : List UInt8) (hd : Int) (w : World) (hr : Rd w w.heap.size 1 A n (bs.map bV)) (hq : Rd w w.heap.size 1 C m (cs.map bV)) (hn : n ≤ 100) (hm : m ≤ 100)
    (hd0 : 0 ≤ hd) (hd1 : hd ≤ 255) :
    Calls Try.prog 6 #[.slice A n c, .slice C m d, .int .u8 hd] w fun e w' => e = .returned (.bool true) ∧ Below w.heap.size w w' := by
  have hA : Hid (∀ w, Calls Try.prog 8 #[] w fun e w' => e = .returned (.bool true) ∧ Below w.heap.size w w') := awake_any
  have hbl : bs.length = n := by simpa using hr.1
  have hcl : cs.length = m := by simpa using hq.1
  obtain ⟨K, hK1, hK2, hK⟩ : ∃ K : Nat, 1 ≤ K ∧ K ≤ 9 ∧ 1 + hd % 9 = (K : Int) := ⟨(1 + hd % 9).toNat, by omega, by omega, by omega⟩
  have hN : Hid (∀ W, Below w.heap.size w W → Calls Try.prog 9 #[.int .i64 1, .int .i64 100] W fun e w' => ∃ p, e = .returned (.tuple #[pp p, .int .i64 0]) ∧ Below W.heap.size W w' ∧ In w.heap.size NoT w' p ⟨[0], [[]], [0], 100⟩) :=
    fun W hW => new_in (B := w.heap.size) 1 100 W NoT (fun _ h => h.elim) (by omega) (by omega) (by omega) (by omega) hW.size
  have hT1 : Hid (∀ p W, In w.heap.size NoT W p ⟨[0], [[]], [0], 100⟩ → Calls Try.prog 10 #[pp p] W fun e w' => e = .returned (.tuple #[.int .i64 0, .int .i64 0]) ∧ Did w.heap.size NoT W p (oneS 1 []) w') :=
    fun p W h => take_in h (by decide)
  have hTN : Hid (∀ p W h b, In w.heap.size NoT W p (oneS h b) → Calls Try.prog 10 #[pp p] W fun e w' => e = .returned (.tuple #[.int .i64 0, .int .i64 19]) ∧ Did w.heap.size NoT W p (oneS h b) w') :=
    fun p W h b hi => take_in hi (by simp [oneS])
  have hFb : Hid (∀ p W, In w.heap.size NoT W p (oneS 1 []) → Below w.heap.size w W → Calls Try.prog 13 #[pp p, .int .i64 0, .slice A n c] W fun e w' => e = .returned (.int .i64 0) ∧ Did w.heap.size NoT W p (oneS 1 bs) w') := by
    intro p W hi hb
    have := fill_in 0 A n c _ bs hi (hr.below hb) hb.size
    rwa [(one_fill [] bs (by omega)).1, (one_fill [] bs (by omega)).2] at this
  have hFc : Hid (∀ p W h, 1 < h → In w.heap.size NoT W p (oneS h bs) → Below w.heap.size w W → Calls Try.prog 13 #[pp p, .int .i64 0, .slice C m d] W fun e w' => e = .returned (.int .i64 18) ∧ Did w.heap.size NoT W p (oneS h bs) w') := by
    intro p W h h1 hi hb
    have := fill_in 0 C m d _ cs hi (hq.below hb) hb.size
    rwa [(one_busy h bs cs h1).1, (one_busy h bs cs h1).2] at this
  have hFe : Hid (∀ p W, In w.heap.size NoT W p (oneS 1 bs) → Below w.heap.size w W → Calls Try.prog 13 #[pp p, .int .i64 0, .slice C m d] W fun e w' => e = .returned (.int .i64 0) ∧ Did w.heap.size NoT W p (oneS 1 cs) w') := by
    intro p W hi hb
    have := fill_in 0 C m d _ cs hi (hq.below hb) hb.size
    rwa [(one_fill bs cs (by omega)).1, (one_fill bs cs (by omega)).2] at this
  have hH : Hid (∀ p W h, 0 < h → h < 1000 → In w.heap.size NoT W p (oneS h bs) → Calls Try.prog 16 #[pp p, .int .i64 0] W fun e w' => e = .returned (.int .i64 0) ∧ Did w.heap.size NoT W p (oneS (h + 1) bs) w') := by
    intro p W h h0 h1 hi
    have := hold_in 0 hi (by simp [oneS, hOf]; omega)
    rwa [(one_hold h bs h0).1, (one_hold h bs h0).2] at this
  have hD : Hid (∀ p W h, 0 < h → h < 1000 → In w.heap.size NoT W p (oneS (h + 1) bs) → Calls Try.prog 11 #[pp p, .int .i64 0] W fun e w' => e = .returned (.int .i64 0) ∧ Did w.heap.size NoT W p (oneS h bs) w') := by
    intro p W h h0 h1 hi
    have := drop_in 0 hi (by simp [oneS, hOf]; omega) (by simp [oneS])
    rwa [(one_drop h bs h0).1, (one_drop h bs h0).2] at this
  have hD1 : Hid (∀ p W, In w.heap.size NoT W p (oneS 1 cs) → Calls Try.prog 11 #[pp p, .int .i64 0] W fun e w' => e = .returned (.int .i64 0) ∧ Did w.heap.size NoT W p ⟨[0], [[]], [0], 100⟩ w') := by
    intro p W hi
    have := drop_in 0 hi (by simp [oneS, hOf]) (by simp [oneS])
    rwa [(one_drop1 cs).1, (one_drop1 cs).2] at this
  have hD2 : Hid (∀ p W, In w.heap.size NoT W p ⟨[0], [[]], [0], 100⟩ → Calls Try.prog 11 #[pp p, .int .i64 0] W fun e w' => e = .returned (.int .i64 2) ∧ Did w.heap.size NoT W p ⟨[0], [[]], [0], 100⟩ w') :=
    fun p W hi => drop_in 0 hi (by decide) (by decide)
  have hV : Hid (∀ p W h, 0 < h → In w.heap.size NoT W p (oneS h bs) → Calls Try.prog 18 #[pp p, .int .i64 0, .int .i64 0, .int .i64 (n : Int)] W fun e w' => e = .returned (.tuple #[.string ⟨bs.toArray⟩, .int .i64 0]) ∧ W = w') := by
    intro p W h h0 hi
    have := view_in 0 0 (bs.length : Int) hi (by simp [oneS, bOf]; omega)
    rw [(one_view h bs h0).1, (one_view h bs h0).2] at this
    rwa [hbl] at this
  have hV2 : Hid (∀ p W, In w.heap.size NoT W p ⟨[0], [[]], [0], 100⟩ → Calls Try.prog 18 #[pp p, .int .i64 0, .int .i64 0, .int .i64 0] W fun e w' => e = .returned (.tuple #[.string ⟨#[]⟩, .int .i64 2]) ∧ W = w') :=
    fun p W hi => view_in 0 0 0 hi (by decide)
  have hS : Hid (∀ p W h, 0 < h → In w.heap.size NoT W p (oneS h bs) → Calls Try.prog 17 #[pp p, .int .i64 0] W fun e w' => e = .returned (.int .i64 (h : Int)) ∧ W = w') := by
    intro p W h h0 hi
    have := holds_in 0 hi
    rwa [one_holds h bs h0] at this
  have hFr : Hid (∀ p W, In w.heap.size NoT W p ⟨[0], [[]], [0], 100⟩ → Calls Try.prog 14 #[pp p] W (RetNewI W [0])) := fun p W hi => free_in hi (by decide)
  have hBy : Hid (∀ p W, In w.heap.size NoT W p ⟨[0], [[]], [0], 100⟩ → Calls Try.prog 15 #[pp p] W fun e w' => e = .returned (.int .i64 0) ∧ Below W.heap.size W w') :=
    fun p W hi => bytes_in hi (fun i => by rcases i with _ | i <;> simp)
  have kb : Hid (∀ W, Below w.heap.size w W → (convert 22 9 (.slice A n c)).run Try.prog W = .ok (.string ⟨bs.toArray⟩) W) := fun W hW => conv_rd (hr.below hW)
  clear hr hq hbl hcl
  have i1 : (n : Int) ≤ 100 := by omega
  have i2 : (m : Int) ≤ 100 := by omega
  unfold pp at *
  go_enter Try.func6, Try.ntmps6
  go_wp2_with (first
    | (go_at_call 13; refine (hFb.out _ _ HI3.out HB3.out).mono ?_; rintro e4 w4 ⟨rfl, hd4⟩; have HB4 := Lib.hid (HB3.out.trans (hd4.below HI3.out.1)); have HI4 := Lib.hid hd4.1; clear hd4)
    | (go_at_call 10; refine (hT1.out _ _ HI2.out).mono ?_; rintro e3 w3 ⟨rfl, hd3⟩; have HB3 := Lib.hid (HB2.out.trans (hd3.below HI2.out.1)); have HI3 := Lib.hid hd3.1; clear hd3)
    | (go_at_call 9; refine (hN.out _ HB1.out).mono ?_; rintro e2 w2 ⟨p, rfl, hb2, hi2⟩; have HB2 := Lib.hid (below_trans HB1.out hb2); have HI2 := Lib.hid hi2; clear hb2 hi2)
    | (go_at_call 8; refine (hA.out _).mono ?_; rintro e1 w1 ⟨rfl, hb1⟩; have HB1 := Lib.hid hb1; clear hb1))
  clear HB1 HB2 HB3 HI2 HI3 hN hT1 hFb hK
  go_loopw [10] (fun i wr => ∃ k : Nat, k ≤ K ∧ i = .int .i64 k ∧ Below w.heap.size w wr ∧ In w.heap.size NoT wr p (oneS (k + 1) bs)) (fun i _ => K - (intOf i).toNat)
  case atStart => exact ⟨0, by omega, rfl, HB4.out, HI4.out⟩
  case round =>
    obtain ⟨k, hk, rfl, hbw, hin⟩ := hrel
    by_cases hlt : k < K
    · have i5 : (k : Int) < (K : Int) := by omega
      have HT := Lib.hid (hH.out p wr (k + 1) (by omega) (by omega) hin)
      have HIN := Lib.hid hin
      have HBW := Lib.hid hbw
      clear hin hbw
      go_wp2_with (go_at_call 16; refine HT.out.mono ?_; rintro e3 w3 ⟨rfl, hd3⟩; have HB3 := Lib.hid (HBW.out.trans (hd3.below HIN.out.1)); have HI3 := Lib.hid hd3.1; clear hd3)
      go_roundw
      case rel => exact ⟨k + 1, by omega, by go_num, HB3.out, HI3.out⟩
      case measure => simp [intOf]; omega
    · obtain rfl : k = K := by omega
      have HIN := Lib.hid hin
      have HBW := Lib.hid hbw
      clear hin hbw hlt HB4 HI4 hH
      go_wp2
      go_loopw [11] (fun i wr => ∃ j : Nat, j ≤ k ∧ i = .int .i64 j ∧ Below w.heap.size w wr ∧ In w.heap.size NoT wr p (oneS (j + 1) bs)) (fun i _ => (intOf i).toNat)
      case atStart => exact ⟨k, by omega, rfl, HBW.out, HIN.out⟩
      case round =>
        obtain ⟨j, hj, rfl, hbw, hin⟩ := hrel
        by_cases hj0 : 0 < j
        · have i5 : (0 : Int) < (j : Int) := by omega
          have HV := Lib.hid (hV.out p wr (j + 1) (by omega) hin)
          have HTT := Lib.hid (fun W => hTN.out p W (j + 1) bs)
          have HFF := Lib.hid (fun W => hFc.out p W (j + 1) (by omega))
          have HDD := Lib.hid (fun W => hD.out p W j (by omega) (by omega))
          have HSS := Lib.hid (fun W => hS.out p W j (by omega))
          have HI0 := Lib.hid hin
          have HB0 := Lib.hid hbw
          clear hin hbw
          go_wp2_with (first
            | (go_at_call 17; refine (HSS.out _ HI5.out).mono ?_; rintro e6 w6 ⟨rfl, rfl⟩)
            | (go_at_call 11; refine (HDD.out _ HI4.out).mono ?_; rintro e5 w5 ⟨rfl, hd5⟩; have HB5 := Lib.hid (HB4.out.trans (hd5.below HI4.out.1)); have HI5 := Lib.hid hd5.1; clear hd5)
            | (go_at_call 13; refine (HFF.out _ HI3.out HB3.out).mono ?_; rintro e4 w4 ⟨rfl, hd4⟩; have HB4 := Lib.hid (HB3.out.trans (hd4.below HI3.out.1)); have HI4 := Lib.hid hd4.1; have kc := kb.out _ HB4.out; clear hd4)
            | (go_at_call 10; refine (HTT.out _ HI0.out).mono ?_; rintro e3 w3 ⟨rfl, hd3⟩; have HB3 := Lib.hid (HB0.out.trans (hd3.below HI0.out.1)); have HI3 := Lib.hid hd3.1; clear hd3)
            | (go_at_call 18; refine HV.out.mono ?_; rintro e2 w2 ⟨rfl, rfl⟩))
          go_roundw
          case rel => exact ⟨j - 1, by omega, by congr 1; omega, HB5.out, by rw [show j - 1 + 1 = j by omega]; exact HI5.out⟩
          case measure => simp [intOf]; omega
        · obtain rfl : j = 0 := by omega
          have HI0 := Lib.hid hin
          have HB0 := Lib.hid hbw
          clear hin hbw
          go_wp2_with (first
            | (go_at_call 15; refine (hBy.out p _ HI5.out).mono ?_; rintro e6 w6 ⟨rfl, hb6⟩; have HB6 := Lib.hid (below_trans HB5.out hb6); clear hb6)
            | (go_at_call 14; refine (hFr.out p _ HI4.out).mono ?_; rintro e5 w5 ⟨v5, rfl, hnew5⟩; have HB5 := Lib.hid (below_trans HB4.out hnew5.2.1); have HI5 := Lib.hid (HI4.out.below hnew5.2.1); obtain ⟨A5, c5, rfl, -⟩ := newI_own hnew5; clear hnew5)
            | (go_at_call 18; refine (hV2.out p _ HI4.out).mono ?_; rintro e7 w7 ⟨rfl, rfl⟩)
            | (go_at_call 11; refine (hD2.out p _ HI3.out).mono ?_; rintro e4 w4 ⟨rfl, hd4⟩; have HB4 := Lib.hid (HB3.out.trans (hd4.below HI3.out.1)); have HI4 := Lib.hid hd4.1; clear hd4)
            | (go_at_call 11; refine (hD1.out p _ HI2.out).mono ?_; rintro e3 w3 ⟨rfl, hd3⟩; have HB3 := Lib.hid (HB2.out.trans (hd3.below HI2.out.1)); have HI3 := Lib.hid hd3.1; clear hd3)
            | (go_at_call 13; refine (hFe.out p _ HI0.out HB0.out).mono ?_; rintro e2 w2 ⟨rfl, hd2⟩; have HB2 := Lib.hid (HB0.out.trans (hd2.below HI0.out.1)); have HI2 := Lib.hid hd2.1; clear hd2))
          go_ret
          exact ⟨rfl, HB6.out⟩

set_option maxHeartbeats 1000000 in
theorem views_any (A C : Option Addr) (n c m d : Nat) (bs cs : List UInt8) (hd : Int) (w : World) (hr : Rd w w.heap.size 1 A n (bs.map bV)) (hq : Rd w w.heap.size 1 C m (cs.map bV)) (hd0 : 0 ≤ hd) (hd1 : hd ≤ 255) :
    Calls Try.prog 6 #[.slice A n c, .slice C m d, .int .u8 hd] w fun e w' => e = .returned (.bool true) ∧ Below w.heap.size w w' := by
  have hA : Hid (∀ w, Calls Try.prog 8 #[] w fun e w' => e = .returned (.bool true) ∧ Below w.heap.size w w') := awake_any
  by_cases h : n ≤ 100
  · by_cases h2 : m ≤ 100
    · exact views_small A C n c m d bs cs hd w hr hq h h2 hd0 hd1
    · have h1 : (100 : Int) < (m : Int) := by omega
      have h3 : (n : Int) ≤ 100 := by omega
      clear hr hq h h2
      go_enter Try.func6, Try.ntmps6
      go_wp2_with fail
      refine (hA.out _).mono ?_
      rintro e1 w1 ⟨rfl, hb1⟩
      go_wp2_with fail
      refine (hA.out _).mono ?_
      rintro e2 w2 ⟨rfl, hb2⟩
      go_wp2
      go_ret
      exact ⟨rfl, below_trans hb1 hb2⟩
  · have h1 : (100 : Int) < (n : Int) := by omega
    clear hr hq h
    go_enter Try.func6, Try.ntmps6
    go_wp2_with fail
    refine (hA.out _).mono ?_
    rintro e1 w1 ⟨rfl, hb1⟩
    go_wp2_with fail
    refine (hA.out _).mono ?_
    rintro e2 w2 ⟨rfl, hb2⟩
    go_wp2
    go_ret
    exact ⟨rfl, below_trans hb1 hb2⟩
end Go.Proofs.Ytmebpalfjcejoaa
