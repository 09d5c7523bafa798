/-
  The law's example awake returns true; no condition beyond those that each theorem states.
-/
import Derived.Test.YtbgmdjceecbbhaaDoorAwake18
namespace Go.Proofs.YtbgmdjceecbbhaaDoor
open Go.RowKit Go.Rb
attribute [local irreducible] Go.wpQuiet

set_option maxRecDepth 20000 in
set_option maxHeartbeats 400000 in
theorem awake_any (w : World) (hT : Tb w) :
    Calls Tryd.prog 7 #[] w fun e w' => e = .returned (.bool true) ∧ Below w.heap.size w w' := by
  obtain ⟨i0, hi0, hz0, hz1, hz2⟩ := info_parts infoS
  have HT := Lib.hid hT
  have h0 := hT.lt
  clear hT
  go_enter Tryd.func7, Tryd.ntmps7
  go_wp2_with fail
  refine (new_ok 3 1 1 (by decide) (by decide) (by decide) (by decide) (by decide) (by decide) w).mono ?_
  rintro e1 w1 ⟨rfl, htr1, hb1, hsz1⟩
  have HTR1 := Lib.hid htr1
  have HB1 := Lib.hid hb1
  clear htr1 hb1
  unfold pp
  go_wp2_with fail
  go_loopw [3, 4] (fun ov iv wr => ∃ (i : Nat) (hv : Value), iv = .int .i64 i ∧ i ≤ 5 ∧ Hid (Own wr 9 1 ov (awS i).1.length (lns (awS i).1)) ∧ Hid (∀ k, ov.ownBlock = some k → w.heap.size ≤ k) ∧ Hid (Tr wr w.heap.size (awS i).2 hv) ∧ Hid (∀ k, hv.ownBlock = some k → w.heap.size ≤ k) ∧ Hid (Below w.heap.size w wr)) (fun _ iv _ => 5 - (intOf iv).toNat)
  case atStart => exact ⟨0, _, rfl, by omega, by show Own _ _ _ _ _ _; exact Own.nil_ _ _ _, fun k hk => by simp [Value.ownBlock] at hk, HTR1.out, fun k hk => by simp [Value.ownBlock] at hk, HB1.out⟩
  case round =>
    obtain ⟨i, hv, rfl, hi, hown, hok, htr, hkv, hbw⟩ := hrel
    obtain ⟨Ao, co, rfl, -, -⟩ := hown.out.len_
    by_cases hlt : i < 5
    · obtain ⟨v1, v2, v3, v4, v5, v6⟩ := awS_inv i hlt
      have hnx : awS (i + 1) = ((awS i).1 ++ (ctx (awS i).2 (awR i) (awH i)).1, (ctx (awS i).2 (awR i) (awH i)).2) := rfl
      have hln := awS_len (i + 1) (by omega)
      obtain ⟨AN, hAN⟩ : ∃ X, awS (i + 1) = X := ⟨_, rfl⟩
      have HAN := Lib.hid hAN
      rw [hAN] at hln hnx
      obtain ⟨L0, hL0⟩ : ∃ X, (awS i).1 = X := ⟨_, rfl⟩
      obtain ⟨S0, hS0⟩ : ∃ X, (awS i).2 = X := ⟨_, rfl⟩
      rw [hL0] at hown hok hnx v6 ⊢
      rw [hS0] at htr hnx v1 v2 v3 v4 v5
      have hctx : ∃ X, ctx S0 (awR i) (awH i) = X := ⟨_, rfl⟩
      obtain ⟨⟨L1, S1⟩, hctx⟩ := hctx
      have HCTX := Lib.hid hctx
      rw [hctx] at hnx
      simp only at hnx
      have hcl : L1.length ≤ 100 := by rw [hnx] at hln; simp only [List.length_append] at hln; omega
      have HNX := Lib.hid hnx
      have HV6 := Lib.hid v6
      clear hAN hL0 hS0 hctx hnx hln v6
      have HI := Lib.hid (And.intro v1 (And.intro v2 (And.intro v3 (And.intro v4 v5))))
      have HTW := Lib.hid (HT.out.below' hbw.out)
      have i1 : (i : Int) < 5 := by omega
      have i2 : (0 : Int) ≤ (i : Int) := by omega
      have hcv := conv_one (UInt8.ofNat (97 + i)) (97 + (i : Int)) (by rw [UInt8.toNat_ofNat']; rw [Nat.mod_eq_of_lt (by omega)]; omega) wr
      have hmk : mk [UInt8.ofNat (97 + i)] = mk (awR i).t := rfl
      rw [hmk] at hcv
      have hrc : rcv (awR i) = .agg #[.int .i64 (i : Int), .int .i64 0, .string (mk (awR i).t)] := rfl
      have hh : awH i = (i == 1 || i == 4) := rfl
      have g1 : ((i : Int) == 1) = (i == 1) := by rw [Bool.eq_iff_iff]; simp; omega
      have g4 : ((i : Int) == 4) = (i == 4) := by rw [Bool.eq_iff_iff]; simp; omega
      obtain ⟨b1, hb1⟩ : ∃ b, (i == 1) = b := ⟨_, rfl⟩
      obtain ⟨b4, hb4⟩ : ∃ b, (i == 4) = b := ⟨_, rfl⟩
      rw [hb1] at g1 hh
      rw [hb4] at g4 hh
      have HHH := Lib.hid hh
      clear v1 v2 v3 v4 v5 hmk hb1 hb4 hh
      generalize mk (awR i).t = TT at *
      have HRC := Lib.hid hrc
      have HBA := Lib.hid (below_al (Below.refl _ wr) (.cells #[.int .u8 (97 + (i : Int))] 5))
      clear hrc
      obtain ⟨hs, hhs⟩ : ∃ hs, (if awH i then [(⟨0, 0⟩ : Ht)] else []) = hs := ⟨_, rfl⟩
      have hfl := awH_filter i
      rw [hhs] at hfl
      have HFL := Lib.hid hfl
      have HRW1 : Hid (∀ W, Calls Tryd.prog 9 #[.int .i64 (i : Int), .string TT, .bool (b1 || b4)] W fun e w' => ∃ A m, m ≤ 1 ∧ e = .returned (.agg #[.int .i64 (i : Int), .int .i64 0, .string TT, .slice A m m]) ∧ hs.length = m ∧ Rd w' w'.heap.size 2 A m (hts hs) ∧ Below W.heap.size W w') := fun W => (row_any (i : Int) TT (b1 || b4) W).mono fun e w' ⟨A, m, h1, h2, h3, h4, h5⟩ => ⟨A, m, h1, h2, by rw [h3, ← hhs, HHH.out]; cases b1 <;> cases b4 <;> rfl, by rw [← hhs, HHH.out]; exact h4, h5⟩
      clear hhs hfl
      cases b1 <;> cases b4
      all_goals
        go_wp2_with fail
        refine (HRW1.out _).mono ?_
        rintro e2 w2 ⟨Ah, mh, hm1, rfl, hmh, hrd, hb2⟩
        have HMH := Lib.hid hmh
        have HRD := Lib.hid hrd
        have HB2 := Lib.hid hb2
        clear hmh hrd hb2
        go_wp2_with fail
        have HBR := Lib.hid (below_al (below_trans HBA.out HB2.out) (.cells #[.int .i64 (i : Int), .int .i64 0, .string TT, .slice Ah mh mh] 32))
        have HRD5 := Lib.hid ((HRD.out.below (below_al (Below.refl _ w2) (.cells #[.int .i64 (i : Int), .int .i64 0, .string TT, .slice Ah mh mh] 32))).more (below_al (Below.refl _ w2) (.cells #[.int .i64 (i : Int), .int .i64 0, .string TT, .slice Ah mh mh] 32)).size)
        generalize w2.alloc (.cells #[.int .i64 (i : Int), .int .i64 0, .string TT, .slice Ah mh mh] 32) = W5 at *
        have hadd := add_ctx S0 (awR i) hs Ah mh mh w.heap.size hv W5 (htr.out.below HBR.out (Nat.le_refl _)) (HTW.out.below' HBR.out) h0 ⟨by unfold I64 awR; simp only; omega, by simp [awR]⟩ HMH.out HRD5.out (by omega) HI.out.1 HI.out.2.1 HI.out.2.2.1 HI.out.2.2.2.1 HI.out.2.2.2.2
        rw [HFL.out, HRC.out, HCTX.out] at hadd
        have HADD := Lib.hid hadd
        have HOW5 := Lib.hid (hown.out.below HBR.out (fun k hk => hown.out.lt hk))
        have HOLT : Hid (∀ k, (Value.slice Ao L0.length co).ownBlock = some k → k < W5.heap.size ∧ k ≠ w.heap.size ∧ hv.ownBlock ≠ some k) := fun k hk => ⟨HOW5.out.lt hk, fun e => own_ne_blk' hown.out htr.out.1 (by decide) (hk.trans (congrArg some e)), own_ne_own hown.out htr.out.2 (by decide) hk⟩
        clear hadd
        refine (HADD.out).mono ?_
        rintro e6 w6 ⟨v6', hv6, rfl, hown6, hk6, htr6, hkv6, hon6⟩
        obtain ⟨A6, c6, rfl, -, -⟩ := hown6.len_
        have HO6 := Lib.hid (HOW5.out.only hon6 (fun k hk h => (HOLT.out k hk).elim fun _ h2 => h.elim h2.1 h2.2))
        have HRD6 := Lib.hid hown6.rd
        have HTR6 := Lib.hid htr6
        have HKV6 := Lib.hid hkv6
        have HON6 := Lib.hid hon6
        clear hown6 hk6 htr6 hkv6 hon6
        have hl100 : L0.length ≤ 100 := HV6.out
        go_wp2_with (at_builtin; go_loud (refine wpList_append_rd _ rfl (.tmp 33) (.tmp 39) _ rfl 9 i0 _ 1 16 Tryd.underlying34 hi0 hz0 hz1 hz2 rfl (by omega) (.slice Ao L0.length co) L0.length (lns L0) rfl (by exact HO6.out) w6.heap.size A6 L1.length c6 (lns L1) rfl (by exact HRD6.out) (lns_one L1) (by simp only [maxLen]; omega) (by omega) _ rfl ?_; intro v4 w4 hown4 hgrow4 hat4))
        have hbr : Below w.heap.size w W5 := below_trans hbw.out HBR.out
        have hb6 : Below w.heap.size w w6 := hbr.trans (HON6.out.below (hbr.size) (fun k hk => hk.elim (fun h => by omega) (fun h => hkv.out k h)))
        have hb4 : Below w.heap.size w w4 := ((Only.of_below hb6).grown hgrow4 (fun k hk _ => hok.out k hk)).below (Nat.le_refl _) (fun k h => h)
        have HB4 := Lib.hid hb4
        have HTR4 := Lib.hid (HTR6.out.grown HO6.out hgrow4)
        have hs6 := hb6.size
        have HK4 : Hid (∀ k, v4.ownBlock = some k → w.heap.size ≤ k) := fun k hk => by
          rcases hat4 with h | h
          · exact hok.out k (h.symm.trans hk)
          · rw [h] at hk; injection hk with hk; omega
        have HKV4 : Hid (∀ k, hv6.ownBlock = some k → w.heap.size ≤ k) := fun k hk => (HKV6.out k hk).elim (fun h => hkv.out k h) (fun h => Nat.le_trans hbr.size h)
        have HOWN4 : Hid (Own w4 9 1 v4 (L0 ++ L1).length (lns (L0 ++ L1))) := by
          show Own _ _ _ _ _ _
          rw [lns_append, List.length_append]; exact hown4
        have e1 : (awS (i + 1)).1 = L0 ++ L1 := by rw [HAN.out, HNX.out]
        have e2 : (awS (i + 1)).2 = S1 := by rw [HAN.out, HNX.out]
        have HE1 := Lib.hid e1
        have HE2 := Lib.hid e2
        clear hbr hb6 hb4 hs6 e1 e2 hown4 hgrow4 hat4
        go_roundw
        case rel => exact ⟨i + 1, hv6, by go_num, by omega, by show Own _ _ _ _ _ _; rw [HE1.out]; exact HOWN4.out, HK4.out, by show Tr _ _ _ _; rw [HE2.out]; exact HTR4.out, HKV4.out, HB4.out⟩
        case measure => simp [intOf]; omega
    · obtain rfl : i = 5 := by omega
      have h5 := awS_5
      obtain ⟨L, hL⟩ : ∃ X, (awS 5).1 = X := ⟨_, rfl⟩
      rw [hL] at hown hok h5 ⊢
      have hlen : L.length = 5 := by rw [h5]; rfl
      rw [hlen] at hown
      have hlit := Own.lit wr 9 1 5 #[.string (mk [48, 45, 97]), .string (mk [49, 58, 98]), .string (mk [50, 45, 99]), .string (mk [51, 45, 100]), .string (mk [52, 58, 101])] rfl (by decide)
      have hx : lns L = ([mk [48, 45, 97], mk [49, 58, 98], mk [50, 45, 99], mk [51, 45, 100], mk [52, 58, 101]] : List ByteArray).map tV := by rw [h5]; rfl
      have hy : (#[.string (mk [48, 45, 97]), .string (mk [49, 58, 98]), .string (mk [50, 45, 99]), .string (mk [51, 45, 100]), .string (mk [52, 58, 101])] : Array Value).toList = ([mk [48, 45, 97], mk [49, 58, 98], mk [50, 45, 99], mk [51, 45, 100], mk [52, 58, 101]] : List ByteArray).map tV := rfl
      have hown' := hown.out
      rw [hx] at hown'
      rw [hy] at hlit
      rw [hlen]
      clear hL hlen hx hy h5 hown hok htr
      generalize ([mk [48, 45, 97], mk [49, 58, 98], mk [50, 45, 99], mk [51, 45, 100], mk [52, 58, 101]] : List ByteArray) = XS at *
      have HOA := Lib.hid hown'
      have HLT := Lib.hid hlit
      have HBL := Lib.hid (below_al (Below.refl _ wr) (.cells #[.string (mk [48, 45, 97]), .string (mk [49, 58, 98]), .string (mk [50, 45, 99]), .string (mk [51, 45, 100]), .string (mk [52, 58, 101])] 9))
      clear hown' hlit
      unfold mk at HLT HBL
      have HCL := Lib.hid (texts_same Ao _ 5 co 5 XS _ _ _ (HOA.out.below HBL.out (fun k hk => HOA.out.lt hk)).rd HLT.out.rd (by decide))
      go_wp2_with (go_at_call 12; go_loud (refine HCL.out.mono ?_; rintro e2 w2 ⟨rfl, q, rfl⟩))
      go_ret
      exact ⟨rfl, (hbw.out.trans (HBL.out.mono hbw.out.size)).trans (below_drewN (Below.refl _ _) q)⟩
end Go.Proofs.YtbgmdjceecbbhaaDoor
