/-
  The law MatchFinds returns true; no condition beyond those that each theorem states.
-/
import Derived.Test.YtjfkppbfckgckaaG14
import Derived.Test.YtjfkppbfckgckaaG19
import Derived.Test.YtjfkppbfckgckaaInts2M
set_option linter.unusedVariables false
set_option linter.unusedSimpArgs false
namespace Go.Proofs.Ytjfkppbfckgckaa
set_option maxRecDepth 20000
open Go.RowKit Go.Rb
attribute [local irreducible] Go.wpQuiet

set_option maxHeartbeats 4000000 in
theorem finds_law (s t : ByteArray) (z : Int) (w : World) : Calls Try.prog 6 #[.string s, .string t, .int .i64 z] w fun e w' => e = .returned (.bool true) ∧ Below w.heap.size w w' := by
  have HAW := Lib.hid (awake_any w)
  by_cases h60 : 60 < s.size
  · skip
    go_enter Try.func6, Try.ntmps6
    go_wp2_with fail
    refine HAW.out.mono ?_
    rintro e1 w1 ⟨rfl, hb1⟩
    have HB1 := Lib.hid hb1
    have HAW1 := Lib.hid (awake_any w1)
    clear hb1
    go_wp2_with fail
    refine HAW1.out.mono ?_
    rintro e2 w2 ⟨rfl, hb2⟩
    have HB2 := Lib.hid hb2
    clear hb2
    go_wp2_with fail
    go_ret
    exact ⟨rfl, below_trans HB1.out HB2.out⟩
  by_cases h40 : 40 < t.size
  · skip
    go_enter Try.func6, Try.ntmps6
    go_wp2_with fail
    refine HAW.out.mono ?_
    rintro e1 w1 ⟨rfl, hb1⟩
    have HB1 := Lib.hid hb1
    have HAW1 := Lib.hid (awake_any w1)
    clear hb1
    go_wp2_with fail
    refine HAW1.out.mono ?_
    rintro e2 w2 ⟨rfl, hb2⟩
    have HB2 := Lib.hid hb2
    clear hb2
    go_wp2_with fail
    go_ret
    exact ⟨rfl, below_trans HB1.out HB2.out⟩
  have hs60 : s.size ≤ 60 := by omega
  have ht40 : t.size ≤ 40 := by omega
  clear h60 h40
  go_enter Try.func6, Try.ntmps6
  go_wp2_with fail
  refine HAW.out.mono ?_
  rintro e1 w1 ⟨rfl, hb1⟩
  have HB1 := Lib.hid hb1
  have HM := Lib.hid (made2_any s hs60 w1)
  clear hb1 HAW
  go_wp2_with fail
  refine HM.out.mono ?_
  rintro e2 w2 ⟨hb2, rfl | ⟨A, n, c, p, rfl, hn, hn0, hn1, hc, hpr, hok, hset⟩⟩
  · have HB2 := Lib.hid (below_trans HB1.out hb2)
    clear hb2 HM
    go_wp2_with fail
    go_ret
    exact ⟨rfl, HB2.out⟩
  have HB2 := Lib.hid (below_trans HB1.out hb2)
  have HN := Lib.hid hn
  have HP := Lib.hid hpr
  have HOK := Lib.hid hok
  have HSET := Lib.hid hset
  have hs2 := HB2.out.size
  obtain ⟨L, hL⟩ := lastsOf p (rsL t)
  have HLL : Hid (∀ k, k ≤ (decT t).length → IsLast p (rsL t) k (L k)) := fun k hk => hL k (by rw [rsL, List.length_map]; exact hk)
  have hnz : ((n : Int) == 0) = false := by rw [beq_eq_false_iff_ne]; omega
  clear hb2 hn hpr hok hset hL HM
  have HRR := Lib.hid (refRight_any (p.map toIn) A n c w2 (HP.out.ins (Nat.le_refl _)) (by rw [List.length_map]; exact HN.out) (by omega) hc)
  rw [(rightP_iff HN.out).2 ⟨HOK.out, hn0⟩] at HRR
  go_wp2_with fail
  refine HRR.out.mono ?_
  rintro e3 w3 ⟨rfl, hb3⟩
  have HB3 := Lib.hid (below_trans HB2.out hb3)
  have HB23 := Lib.hid hb3
  have HP3 : Hid (PRd w3 w2.heap.size A p) := HP.out.below hb3
  have hs3 : w2.heap.size ≤ w3.heap.size := hb3.size
  clear hb3 HRR
  have HPL := Lib.hid (places_any t w3 (by omega))
  go_wp2_with fail
  refine HPL.out.mono ?_
  rintro e4 w4 ⟨v4, rfl, hz4, -, hb4⟩
  have HB4 := Lib.hid (below_trans HB3.out hb4)
  have HB24 := Lib.hid (below_trans HB23.out hb4)
  have HZ4 := Lib.hid hz4
  have HOF := Lib.hid (of_any t w4 (by omega))
  obtain ⟨A4, c4, hv4, hc4, -⟩ := Own.len_ hz4
  subst hv4
  clear hb4 HPL hz4
  go_wp2_with fail
  refine HOF.out.mono ?_
  rintro e5 w5 ⟨vr, va, rfl, hrr, haa, -, -, hb5⟩
  obtain ⟨Ar, cr, hvr, -, -⟩ := Own.len_ hrr
  subst hvr
  have HB5 := Lib.hid (below_trans HB4.out hb5)
  have HB25 := Lib.hid (below_trans HB24.out hb5)
  obtain ⟨Aa, ca, hva, hca, -⟩ := Own.len_ haa
  subst hva
  have hal : (atL t).length ≤ 1000 := by have := decT_len t; unfold atL; rw [List.length_map, List.length_range]; omega
  have hin := ints_any A4 Aa (atL t).length (atL t).length c4 ca (atL t) (atL t) w5 _ _ ((Own.rd HZ4.out).below hb5) (Own.rd haa) (by omega) (by omega)
  rw [decide_eq_true rfl] at hin
  have HIN := Lib.hid hin
  obtain ⟨nl, hnl⟩ : ∃ nl, (atL t).length = nl := ⟨_, rfl⟩
  rw [hnl] at HIN hc4 hca ⊢
  have hfld := fun W => run_at Ar Aa (rsL t).length cr nl ca W
  clear hb5 HOF haa hal hin hnl HZ4 hrr
  go_wp2_with fail
  refine HIN.out.mono ?_
  rintro e6 w6 ⟨rfl, q, rfl⟩
  have HBM : Hid (Below w.heap.size w (w5.drewN q) ∧ Below w2.heap.size w2 (w5.drewN q)) := ⟨below_drewN HB5.out q, below_drewN HB25.out q⟩
  generalize w5.drewN q = wM at HBM ⊢
  clear HIN HB5 HB25 HB4 HB24 HB3 HB23
  go_wp2_with fail
  go_loopw [8] (fun v8 wr => ∃ j : Nat, v8 = .int .i64 ((j : Int) - 1) ∧ j ≤ t.size + 3 ∧ Hid (Below w.heap.size w wr ∧ Below w2.heap.size w2 wr)) (fun v8 _ => t.size + 3 - (intOf v8 + 1).toNat)
  case atStart => exact ⟨0, rfl, by omega, HBM.out⟩
  case round =>
  obtain ⟨j, rfl, hj, HB6⟩ := hrel
  obtain ⟨w6, hw6⟩ : ∃ w6, w6 = wr := ⟨_, rfl⟩
  subst hw6
  by_cases hjl : j < t.size + 3
  · by_cases hjt : (t.size : Int) < (j : Int) - 1
    · skip
      have HLM := Lib.hid (longM_any HN.out hn0 (by omega) HOK.out HSET.out (by omega : t.size ≤ 60) hc HLL.out (z) w6 HB6.out.2.size (HP.out.below HB6.out.2))
      go_wp2_with fail
      refine HLM.out.mono ?_
      rintro e7 w7 ⟨⟨r, hr7, rfl⟩, hb7⟩
      obtain ⟨r1, r2, hrv⟩ := longV_parts t r
      have HR7 := Lib.hid hr7
      have HRV := Lib.hid hrv
      rw [hrv]
      have HB7 : Hid (Below w.heap.size w w7 ∧ Below w2.heap.size w2 w7) := ⟨below_trans HB6.out.1 hb7, below_trans HB6.out.2 hb7⟩
      have HRL := Lib.hid (refLong_any HN.out hn0 (by omega) HOK.out HSET.out (by omega : t.size ≤ 60) hc HLL.out (z) w7 HB7.out.2.size (HP.out.below HB7.out.2))
      clear hb7 HLM hr7 hrv
      go_wp2_with fail
      refine HRL.out.mono ?_
      rintro e8 w8 ⟨⟨r', hr8, rfl⟩, hb8⟩
      obtain rfl := hr8.fn HR7.out
      rw [HRV.out]
      have HB8 : Hid (Below w.heap.size w w8 ∧ Below w2.heap.size w2 w8) := ⟨below_trans HB7.out.1 hb8, below_trans HB7.out.2 hb8⟩
      clear hb8 HRL hr8
      go_wp2_with fail
      go_roundw
      case rel => exact ⟨j + 1, by go_num, by omega, HB8.out⟩
      case measure => simp [intOf] <;> omega
    · skip
      have HLM := Lib.hid (longM_any HN.out hn0 (by omega) HOK.out HSET.out (by omega : t.size ≤ 60) hc HLL.out ((j : Int) - 1) w6 HB6.out.2.size (HP.out.below HB6.out.2))
      go_wp2_with fail
      refine HLM.out.mono ?_
      rintro e7 w7 ⟨⟨r, hr7, rfl⟩, hb7⟩
      obtain ⟨r1, r2, hrv⟩ := longV_parts t r
      have HR7 := Lib.hid hr7
      have HRV := Lib.hid hrv
      rw [hrv]
      have HB7 : Hid (Below w.heap.size w w7 ∧ Below w2.heap.size w2 w7) := ⟨below_trans HB6.out.1 hb7, below_trans HB6.out.2 hb7⟩
      have HRL := Lib.hid (refLong_any HN.out hn0 (by omega) HOK.out HSET.out (by omega : t.size ≤ 60) hc HLL.out ((j : Int) - 1) w7 HB7.out.2.size (HP.out.below HB7.out.2))
      clear hb7 HLM hr7 hrv
      go_wp2_with fail
      refine HRL.out.mono ?_
      rintro e8 w8 ⟨⟨r', hr8, rfl⟩, hb8⟩
      obtain rfl := hr8.fn HR7.out
      rw [HRV.out]
      have HB8 : Hid (Below w.heap.size w w8 ∧ Below w2.heap.size w2 w8) := ⟨below_trans HB7.out.1 hb8, below_trans HB7.out.2 hb8⟩
      clear hb8 HRL hr8
      go_wp2_with fail
      go_roundw
      case rel => exact ⟨j + 1, by go_num, by omega, HB8.out⟩
      case measure => simp [intOf] <;> omega
  · have HFM := Lib.hid (firstM_any HN.out hn0 (by omega) HOK.out HSET.out (by omega : t.size ≤ 60) hc HLL.out z w6 HB6.out.2.size (HP.out.below HB6.out.2))
    go_wp2_with fail
    refine HFM.out.mono ?_
    rintro e7 w7 ⟨⟨R, hR7, rfl⟩, hb7⟩
    obtain ⟨xa, xb, hab⟩ := hitV_agg t R
    obtain ⟨bb, hbb⟩ : ∃ bb, R.isSome = bb := ⟨_, rfl⟩
    rw [hab, hbb]
    have HR7 := Lib.hid hR7
    have HAB := Lib.hid hab
    have HBB := Lib.hid hbb
    have HB7 : Hid (Below w.heap.size w w7 ∧ Below w2.heap.size w2 w7) := ⟨below_trans HB6.out.1 hb7, below_trans HB6.out.2 hb7⟩
    have HBK := Lib.hid (Blk.new w7 33 #[.int .i64 xa, .int .i64 xb])
    have HB8 : Hid (Below w.heap.size w (w7.alloc (.cells #[.int .i64 xa, .int .i64 xb] 33)) ∧ Below w2.heap.size w2 (w7.alloc (.cells #[.int .i64 xa, .int .i64 xb] 33))) := ⟨below_al HB7.out.1 _, below_al HB7.out.2 _⟩
    have HRF := Lib.hid (refFirst_any HN.out hn0 (by omega) HOK.out HSET.out (by omega : t.size ≤ 60) hc HLL.out z (w7.alloc (.cells #[.int .i64 xa, .int .i64 xb] 33)) HB8.out.2.size (HP.out.below HB8.out.2))
    clear hb7 HFM hR7 hab hbb
    go_wp2_with fail
    refine HRF.out.mono ?_
    rintro e9 w9 ⟨⟨R', hR9, -, rfl⟩, hb9⟩
    obtain rfl := FirstIs.fn hR9 HR7.out
    rw [HAB.out, HBB.out]
    have HB9 := Lib.hid (below_trans HB8.out.1 hb9)
    have hx1 := HBK.out.below hb9 (by simp)
    have HX1 := Lib.hid (hx1.below (below_al (Below.refl w9.heap.size w9) (.cells #[.int .i64 xa, .int .i64 xb] 33)) hx1.lt)
    have HX2 := Lib.hid (Blk.new w9 33 #[.int .i64 xa, .int .i64 xb])
    have HBA := Lib.hid (below_al HB9.out (.cells #[.int .i64 xa, .int .i64 xb] 33))
    have y0 := HX1.out.cell 0
    have y1 := HX1.out.cell 1
    have hlt := HX1.out.lt
    have z0 := HX2.out.cell 0
    have z1 := HX2.out.cell 1
    have hlz := HX2.out.lt
    simp only [List.getElem?_toArray, List.getElem?_cons_succ, List.getElem?_cons_zero] at y0 y1 z0 z1
    clear hb9 HRF hR9 hx1
    go_wp2_with fail
    go_ret
    exact ⟨by simp, HBA.out⟩
end Go.Proofs.Ytjfkppbfckgckaa
