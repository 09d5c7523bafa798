/-
  The law CodeOpens of reedbedlaw01 returns true; no condition beyond those that each theorem states.
-/
import Derived.Test.YteigpmfhhmlgoaaPlain3
namespace Go.Proofs.Yteigpmfhhmlgoaa
open Go.RowKit Go.Rb

theorem Rd.take_ {w : World} {B n k : Nat} {A : Option Addr} {xs : List Value} (h : Rd w B 1 A n xs) (hk : k ≤ n) : Rd w B 1 A k (xs.take k) := by
  refine ⟨by rw [List.length_take, h.1]; omega, fun h0 => ?_⟩
  obtain ⟨b, off, hA, hlt, hc⟩ := h.2 (by omega)
  exact ⟨b, off, hA, hlt, fun j hj => by rw [hc j (by omega), List.getElem?_take_of_lt (by omega)]⟩

set_option maxRecDepth 20000 in
set_option maxHeartbeats 4000000 in
theorem opens_small (r : Int) (bs rest : List UInt8) (A1 A2 : Option Addr) (n1 n2 c1 c2 : Nat) (w : World) (hr1 : Rd w w.heap.size 1 A1 n1 (bs.map bV)) (hr2 : Rd w w.heap.size 1 A2 n2 (rest.map bV)) (hc1 : n1 ≤ c1) (hc2 : n2 ≤ c2) (hn1 : n1 ≤ 20) (hn2 : n2 ≤ 20) :
    Calls Try.prog 8 #[.int .i64 r, .slice A1 n1 c1, .slice A2 n2 c2] w fun e w' => e = .returned (.bool true) ∧ Below w.heap.size w w' := by
  obtain ⟨i0, hi0, hz0, hz1, hz2⟩ := info_parts info5
  have HL1 := Lib.hid (show bs.length = n1 by simpa using hr1.1)
  have HL2 := Lib.hid (show rest.length = n2 by simpa using hr2.1)
  have HA1 := Lib.hid hr1
  have HA2 := Lib.hid hr2
  have HQ := Lib.hid (codePut_any r)
  have hbd := putL_bd r
  have HPO := Lib.hid (put_open r)
  have HPN := Lib.hid (put_not_open r)
  generalize putL r = P at *
  obtain ⟨L, hL⟩ : ∃ L, P.length = L := ⟨_, rfl⟩
  rw [hL] at hbd HPO
  have HL := Lib.hid hL
  obtain ⟨hb4, hb0⟩ := hbd
  clear hL hr1 hr2
  have H63 := Lib.hid (show 0 + n1 ≤ maxLen by simp only [maxLen]; omega)
  have H64 := Lib.hid (show (0 + n1) + n2 ≤ maxLen by simp only [maxLen]; omega)
  go_enter Try.func8, Try.ntmps8
  go_wp2_with fail
  refine (awake_any _).mono ?_
  rintro e w1 ⟨rfl, hb1⟩
  go_wp2_with fail
  refine (HQ.out _).mono ?_
  rintro e w2 ⟨v2, rfl, ho2, hb2, -⟩
  rw [HL.out] at ho2
  obtain ⟨A3, c3, rfl, hr3, hc3⟩ := Own.rd' ho2
  obtain ⟨b, off, rfl, -, -⟩ := hr3.2 hb0
  have HR3 := Lib.hid hr3
  have HB2 := Lib.hid (below_trans hb1 hb2)
  clear hr3 ho2 hb1 hb2
  go_wp2_with fail
  go_loopw [8] (fun iv wr => ∃ i : Nat, i ≤ L ∧ iv = .int .i64 i ∧ Below w2.heap.size w2 wr) (fun iv _ => L - (intOf iv).toNat)
  case atStart => exact ⟨0, by omega, rfl, Below.refl _ _⟩
  case round =>
    obtain ⟨i, hi, rfl, hbw⟩ := hrel
    have HB3 := Lib.hid hbw
    clear hbw
    by_cases hlt : i < L
    · have HO : Hid (Calls Try.prog 23 #[.slice (some ⟨b, off, none⟩) i c3] wr fun e w' => e = .returned (.bool true) ∧ Below wr.heap.size wr w') := by
        have := codeOpen_any (P.take i) (some ⟨b, off, none⟩) i c3 _ wr (by rw [List.map_take]; exact Rd.take_ (HR3.out.below HB3.out) (by omega)) (by omega) (by omega) HB3.out.size
        rw [decide_eq_true (HPO.out i hlt)] at this
        exact this
      have hi1 : (i : Int) < (L : Int) := by omega
      go_wp2_with (go_at_call 23; refine HO.out.mono ?_; rintro e w3 ⟨rfl, hb3⟩; have HB4 := Lib.hid (below_trans HB3.out hb3); clear hb3)
      go_roundw
      case rel => exact ⟨i + 1, by omega, by go_num, HB4.out⟩
      case measure => simp [intOf]; omega
    · obtain rfl : i = L := by omega
      go_wp2_with fail
      refine (codeOpen_any P _ i c3 _ _ (HR3.out.below HB3.out) hc3 (by omega) HB3.out.size).mono ?_
      rw [decide_eq_false HPN.out]
      rintro e w3 ⟨rfl, hb3⟩
      have HB4 := Lib.hid (below_trans HB2.out (below_trans HB3.out hb3))
      clear hb3
      go_wp2_with fail
      refine (codeOpen_any bs _ n1 c1 _ _ (HA1.out.below HB4.out) hc1 (by omega) HB4.out.size).mono ?_
      by_cases ho : OpenC bs
      · rw [decide_eq_true ho]
        clear ho
        rintro e w4 ⟨rfl, hb4⟩
        have HB5 := Lib.hid (below_trans HB4.out hb4)
        clear hb4
        go_wp2_with fail
        go_ret
        exact ⟨rfl, HB5.out⟩
      · rw [decide_eq_false ho]
        have hg := settled bs rest ho
        obtain ⟨gx, gy, hg2⟩ : ∃ gx gy, getP bs = (gx, gy) := ⟨_, _, rfl⟩
        rw [hg2] at hg
        have HG := Lib.hid hg
        have HG2 := Lib.hid hg2
        clear ho hg hg2
        rintro e w4 ⟨rfl, hb4⟩
        have HB5 := Lib.hid (below_trans HB4.out hb4)
        clear hb4
        go_wp2_with fail
        refine (codeGet_any bs A1 n1 c1 _ _ (HA1.out.below HB5.out) hc1 (by omega)).mono ?_
        rw [HG2.out]
        rintro e w5 ⟨rfl, rfl⟩
        go_wp2_with (first
          | (at_builtin; refine wpList_append_rd _ rfl (.tmp 49) (.tmp 50) _ rfl 5 i0 _ 1 1 Try.underlying24 hi0 hz0 hz1 hz2 rfl (by omega) (.slice (some ⟨w4.heap.size, 0, none⟩) 0 0) 0 [] rfl (by exact Own.lit w4 5 1 0 #[] rfl (by decide)) w.heap.size A1 n1 c1 (bs.map bV) rfl (by exact HA1.out.below (below_al HB5.out _)) (by simp [bV, Value.oneCell']) H63.out (by omega) _ rfl ?_; intro v6 w6 hown6 hgrow6 hat6; have HB6 := Lib.hid (below_trans HB5.out (Below.grown (below_al (Below.refl _ w4) _) hgrow6 (by simp) (by simp [Value.ownBlock]))); have HK6 : Hid (∀ k, v6.ownBlock = some k → w.heap.size ≤ k) := (fun k hk => by have := HB5.out.size; rcases hat6 with h | h <;> rw [h] at hk <;> simp [Value.ownBlock] at hk <;> omega); have HO6 := Lib.hid hown6; clear hown6 hgrow6 hat6)
          | (at_builtin; refine wpList_append_rd _ rfl (.tmp 51) (.tmp 52) _ rfl 5 i0 _ 1 1 Try.underlying24 hi0 hz0 hz1 hz2 rfl (by omega) v6 (0 + n1) _ rfl HO6.out w.heap.size A2 n2 c2 (rest.map bV) rfl (by exact HA2.out.below HB6.out) (by simp [bV, Value.oneCell']) H64.out (by omega) _ rfl ?_; intro v7 w7 hown7 hgrow7 hat7; have HB7 := Lib.hid (Below.grown HB6.out hgrow7 HB6.out.size HK6.out); have HO7 := Lib.hid hown7; clear hown7 hgrow7 hat7; obtain ⟨A7, c7, rfl, hr7, hc7⟩ := Own.rd' (n := n1 + n2) (xs := (bs ++ rest).map bV) (by simpa using HO7.out); have HR7 := Lib.hid hr7; clear hr7 HO7)
          | fail)
        refine (codeGet_any (bs ++ rest) A7 (n1 + n2) c7 _ _ HR7.out hc7 (by omega)).mono ?_
        rw [HG.out]
        rintro e w8 ⟨rfl, rfl⟩
        go_wp2_with fail
        go_ret
        exact ⟨by simp, HB7.out⟩

set_option maxHeartbeats 400000 in
theorem opens_any (r : Int) (bs rest : List UInt8) (A1 A2 : Option Addr) (n1 n2 c1 c2 : Nat) (w : World) (hr1 : Rd w w.heap.size 1 A1 n1 (bs.map bV)) (hr2 : Rd w w.heap.size 1 A2 n2 (rest.map bV)) (hc1 : n1 ≤ c1) (hc2 : n2 ≤ c2) :
    Calls Try.prog 8 #[.int .i64 r, .slice A1 n1 c1, .slice A2 n2 c2] w fun e w' => e = .returned (.bool true) ∧ Below w.heap.size w w' := by
  by_cases h1 : n1 ≤ 20
  · by_cases h2 : n2 ≤ 20
    · exact opens_small r bs rest A1 A2 n1 n2 c1 c2 w hr1 hr2 hc1 hc2 h1 h2
    · have h2' : (20 : Int) < (n2 : Int) := by omega
      clear hr1 hr2
      go_enter Try.func8, Try.ntmps8
      go_wp2_with fail
      refine (awake_any _).mono ?_
      rintro e w1 ⟨rfl, hb1⟩
      go_wp2_with fail
      refine (awake_any _).mono ?_
      rintro e w2 ⟨rfl, hb2⟩
      go_wp2_with fail
      go_ret
      exact ⟨rfl, below_trans hb1 hb2⟩
  · have h1' : (20 : Int) < (n1 : Int) := by omega
    clear hr1 hr2
    go_enter Try.func8, Try.ntmps8
    go_wp2_with fail
    refine (awake_any _).mono ?_
    rintro e w1 ⟨rfl, hb1⟩
    go_wp2_with fail
    refine (awake_any _).mono ?_
    rintro e w2 ⟨rfl, hb2⟩
    go_wp2_with fail
    go_ret
    exact ⟨rfl, below_trans hb1 hb2⟩
end Go.Proofs.Yteigpmfhhmlgoaa
