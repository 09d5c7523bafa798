/-
  The law LoomFree of reedbedlaw20 returns true; no condition beyond those that each theorem states.
-/
import Derived.Test.YtamgngmbbbegpaaFreeP
import Derived.Test.YtamgngmbbbegpaaTexts1
namespace Go.Proofs.Ytamgngmbbbegpaa
open Go.RowKit Go.Rb
attribute [local irreducible] Go.wpQuiet

theorem infoJ : (Try.prog.info? 47).map (fun i => (i.zero, i.size, i.bytes)) = some (some (.agg #[.int .i64 0, .int .i64 0, .int .i64 0]), 3, 24) := by kernel_rfl
/-- The sum of the first i tasks' steps. -/
def totF (bs : List UInt8) : Nat → Nat
  | 0 => 0
  | i + 1 => totF bs i + (bs.getD i 0).toNat % 50
theorem totF_le (bs : List UInt8) : ∀ i, totF bs i ≤ 49 * i
  | 0 => by simp [totF]
  | i + 1 => by have := totF_le bs i; unfold totF; omega
theorem flat_succ (bs : List UInt8) {i : Nat} (h : i < bs.length) : flat3 (jrow (fjs bs)) (i + 1) = flat3 (jrow (fjs bs)) i ++ [.int .i64 ((bs[i].toNat % 50 : Nat) : Int), .int .i64 (-1), .int .i64 0] := by
  show flat3 (jrow (fjs bs)) i ++ _ = _
  unfold jrow
  rw [fjs_get h]
  rfl

theorem sum_take {bs : List UInt8} {tk : List Int} (h : ∀ j, (hj : j < bs.length) → tk.getD j 0 = ((bs[j].toNat % 50 : Nat) : Int)) (hl : tk.length = bs.length) : ∀ i, i ≤ bs.length → (tk.take i).sum = (totF bs i : Int)
  | 0, _ => rfl
  | i + 1, hi => by
    have ih := sum_take h hl i (by omega)
    have hj := h i (by omega)
    rw [List.getD_eq_getElem?_getD, List.getElem?_eq_getElem (by omega)] at hj
    have hj : tk[i] = ((bs[i].toNat % 50 : Nat) : Int) := hj
    rw [List.take_add_one, List.sum_append, ih, List.getElem?_eq_getElem (by omega)]
    simp only [Option.toList_some, List.sum_cons, List.sum_nil, totF]
    rw [hj, List.getD_eq_getElem?_getD, List.getElem?_eq_getElem (by omega)]
    simp
theorem sum_tot {bs : List UInt8} {tk : List Int} (h : ∀ j, (hj : j < bs.length) → tk.getD j 0 = ((bs[j].toNat % 50 : Nat) : Int)) (hl : tk.length = bs.length) : tk.sum = (totF bs bs.length : Int) := by
  have := sum_take h hl bs.length (Nat.le_refl _)
  rw [← hl, List.take_length, hl] at this
  exact this
theorem nms_map (n : Nat) : nms n = ((List.range n).map nm).map tV := by
  unfold nms
  rw [List.map_map]
  rfl
theorem conv_nm (W : World) (i : Nat) (hi : i < 26) : (convert 45 9 (.slice (some ⟨W.heap.size, 0, none⟩) 1 1)).run Try.prog (W.alloc (.cells #[.int .u8 (97 + (i : Int))] 5)) = .ok (nmV i) (W.alloc (.cells #[.int .u8 (97 + (i : Int))] 5)) := by
  have := conv_own (bs := [by_ (97 + (i : Int))]) (n := 1) (v := .slice (some ⟨W.heap.size, 0, none⟩) 1 1) (W := W.alloc (.cells #[.int .u8 (97 + (i : Int))] 5)) (by
    have := Own.lit W 5 1 1 #[.int .u8 (97 + (i : Int))] rfl (by decide)
    rw [show ([by_ (97 + (i : Int))].map bV) = [.int .u8 (97 + (i : Int))] from by simp [bV_by (97 + (i : Int)) (by omega) (by omega)]]
    exact this)
  exact this
set_option maxRecDepth 20000 in
set_option maxHeartbeats 8000000 in
theorem free_small (bs : List UInt8) (A : Option Addr) (n c : Nat) (ps : List Int) (P : Option Addr) (np cp : Nat) (w : World) (hA : Rd w w.heap.size 1 A n (bs.map bV)) (hc : n ≤ c)
    (hP : Rd w w.heap.size 1 P np (ps.map iV)) (hcp : np ≤ cp) (hn : n ≤ 10) (hnp : np ≤ 60) :
    Calls Try.prog 6 #[.slice A n c, .slice P np cp] w fun e w' => e = .returned (.bool true) ∧ Below w.heap.size w w' := by
  obtain ⟨i0, hi0, hz0, hz1, hz2⟩ := info_parts infoJ
  obtain ⟨k0, hk0, hkz0, hkz1, hkz2⟩ := info_parts infoS
  have HA := Lib.hid hA
  have HP := Lib.hid hP
  have HBL := Lib.hid (show bs.length = n by simpa using hA.1)
  have i1 : ¬ (60 : Int) < (np : Int) := by omega
  have i2 : ¬ (10 : Int) < (n : Int) := by omega
  clear hA hP
  go_enter Try.func6, Try.ntmps6
  go_wp2_with fail
  refine (awake_any _).mono ?_
  rintro e1 w1 ⟨rfl, hb1⟩
  have HB1 := Lib.hid hb1
  clear hb1
  go_wp2_with fail
  go_loopw [5, 6, 7, 8] (fun u tv nv iv wr => ∃ i : Nat, i ≤ n ∧ iv = .int .i64 i ∧ tv = .int .i64 (totF bs i : Int) ∧ Own wr 47 3 u i (flat3 (jrow (fjs bs)) i) ∧ Own wr 9 1 nv i (nms i) ∧ (∀ k, u.ownBlock = some k → w.heap.size ≤ k) ∧ (∀ k, nv.ownBlock = some k → w.heap.size ≤ k) ∧ Below w.heap.size w wr) (fun _ _ _ iv _ => n - (intOf iv).toNat)
  case atStart => exact ⟨0, by omega, rfl, rfl, Own.nil_ _ _ _, Own.lit w1 9 1 0 #[] rfl (by decide), by simp [Value.ownBlock], fun k hk => by simp [Value.ownBlock] at hk; rw [← hk]; exact HB1.out.size, below_al HB1.out _⟩
  case round =>
    obtain ⟨i, hi, rfl, rfl, hu, hv, hku, hkv, hbw⟩ := hrel
    obtain ⟨Au, cu, rfl, -, -⟩ := hu.len_
    obtain ⟨Av, cv, rfl, -, -⟩ := hv.len_
    have HU := Lib.hid hu; have HV := Lib.hid hv; have HKU := Lib.hid hku; have HKV := Lib.hid hkv; have HB := Lib.hid hbw
    clear hu hv hku hkv hbw
    by_cases hlt : i < n
    · have j1 : (i : Int) < (n : Int) := by omega
      obtain ⟨pa, po, rfl, -, hcell⟩ := (HA.out.below HB.out).2 (by omega)
      have hib : i < bs.length := by rw [HBL.out]; exact hlt
      have hfs := flat_succ bs hib
      have hts : totF bs (i + 1) = totF bs i + bs[i].toNat % 50 := by
        show totF bs i + (bs.getD i 0).toNat % 50 = _
        rw [List.getD_eq_getElem?_getD, List.getElem?_eq_getElem hib]; rfl
      have hb256 := bs[i].toNat_lt
      have HXA : Hid (∀ W, Below w.heap.size w W → W.cell? ⟨pa, po + i, none⟩ = some (.int .u8 (bs[i].toNat : Int))) := fun W hW => by
        obtain ⟨b', o', e, -, hc'⟩ := (HA.out.below hW).2 (by omega)
        simp only [Option.some.injEq, Addr.mk.injEq, and_true] at e
        obtain ⟨rfl, rfl⟩ := e
        have x0 := hc' i (by omega)
        rw [List.getElem?_map, List.getElem?_eq_getElem hib] at x0
        exact x0
      clear hcell
      generalize bs[i].toNat = bt at *
      have x1 := HXA.out wr HB.out
      have hrem : (bt : Int).tmod 50 = ((bt % 50 : Nat) : Int) := by rw [Int.tmod_eq_emod_of_nonneg (by omega)]; omega
      have htl := totF_le bs i
      have HFS := Lib.hid hfs
      have HTS := Lib.hid hts
      have hq : bt % 50 < 50 := by omega
      generalize bt % 50 = q at *
      clear hfs hts
      have HNS := Lib.hid (nms_succ i)
      have HCV : Hid (∀ W : World, (convert 45 9 (.slice (some ⟨W.heap.size, 0, none⟩) 1 1)).run Try.prog (W.alloc (.cells #[.int .u8 (97 + (i : Int))] 5)) = .ok (nmV i) (W.alloc (.cells #[.int .u8 (97 + (i : Int))] 5))) := fun W => conv_nm W i (by omega)
      have hzi : (97 + (i : Int)) % 256 = 97 + (i : Int) := by omega
      unfold nmV at HNS HCV
      generalize nm i = nb at *
      generalize totF bs i = T at *
      generalize flat3 (jrow (fjs bs)) i = fl at *
      generalize nms i = ns at *
      go_wp2_with (first
        | (at_builtin; refine wpList_append_mine _ rfl (.tmp 33) (.tmp 41) _ rfl 47 i0 _ 3 24 Try.underlying22 hi0 hz0 hz1 hz2 rfl (by omega) (.slice Au i cu) i fl rfl (by exact HU.out.alloc _) _ 1 1 [.int .i64 (q : Int), .int .i64 (-1), .int .i64 0] rfl rfl (by exact news_pushs rfl rfl) (by simp [Value.oneCell']) (by omega) (by simp only [maxLen]; omega) (by omega) _ rfl ?_; intro g5 o5 c5 w5 hown5 hgrow5 hat5; have HO5 := Lib.hid hown5; have HV5 := Lib.hid (HV.out.only (((Only.refl (fun k => (Value.slice Au i cu).ownBlock = some k) wr).alloc _).grown hgrow5 (fun k hk _ => hk)) (own_ne' HV.out HU.out (by decide))); have HB5 := Lib.hid (Below.grown (HB.out.alloc HB.out.size _) hgrow5 (by simp; have := HB.out.size; omega) HKU.out); have HK5 : Hid (w.heap.size ≤ g5) := (by show _ ≤ _; rcases hat5 with h | h; exact HKU.out _ h; rw [h]; have := HB.out.size; simp; omega); have x5 := HXA.out w5 HB5.out; have HCV5 := HCV.out w5; clear hown5 hgrow5 hat5)
        | (at_builtin; refine wpList_append_mine _ rfl (.tmp 51) (.tmp 57) _ rfl 9 k0 _ 1 16 Try.underlying42 hk0 hkz0 hkz1 hkz2 rfl (by omega) (.slice Av i cv) i ns rfl (by exact (HV5.out.alloc _).alloc _) _ 1 1 [_] rfl rfl (by exact news_push rfl (by simp)) (by simp [Value.oneCell']) (by omega) (by simp only [maxLen]; omega) (by omega) _ rfl ?_; intro g6 o6 c6 w6 hown6 hgrow6 hat6; have HO6 := Lib.hid hown6; have HU6 := Lib.hid (HO5.out.only ((((Only.refl (fun k => (Value.slice Av i cv).ownBlock = some k) w5).alloc _).alloc _).grown hgrow6 (fun k hk _ => hk)) (own_ne' HO5.out HV5.out (by decide))); have HB6 := Lib.hid (Below.grown ((HB5.out.alloc HB5.out.size _).alloc (Nat.le_trans HB5.out.size (by simp)) _) hgrow6 (by simp; have := HB5.out.size; omega) HKV.out); have HK6 : Hid (w.heap.size ≤ g6) := (by show _ ≤ _; rcases hat6 with h | h; exact HKV.out _ h; rw [h]; have := HB5.out.size; simp; omega); clear hown6 hgrow6 hat6)
        | rw [HCV5])
      go_roundw
      case rel => exact ⟨i + 1, by omega, by go_num, by rw [HTS.out]; go_num, by rw [HFS.out]; exact HU6.out, by rw [HNS.out]; exact HO6.out, fun k hk => by simp [Value.ownBlock] at hk; rw [← hk]; exact HK5.out, fun k hk => by simp [Value.ownBlock] at hk; rw [← hk]; exact HK6.out, HB6.out⟩
      case measure => simp [intOf]; omega
    · obtain ⟨rfl, hin⟩ : i = n ∧ True := ⟨by omega, trivial⟩
      have hn10 : i ≤ 10 := hn
      have HJL : Hid ((fjs bs).length = i) := (by have := HBL.out; simpa [fjs] using this : (fjs bs).length = i)
      have HSM : Hid (smallP (fjs bs)) := fjs_small (by rw [HBL.out]; exact hn)
      have hcu : i ≤ cu := by obtain ⟨A', c', e, h, -⟩ := HU.out.len_; simp only [Value.slice.injEq] at e; obtain ⟨-, -, rfl⟩ := e; exact h
      have HMD := Lib.hid (made_any wr wr.heap.size Au i cu (fjs bs) HU.out.rd HJL.out hcu (Nat.le_refl _) (by omega))
      have i3 : ¬ (i : Int) < (i : Int) := by omega
      clear hlt
      go_wp2_with fail
      refine HMD.out.mono ?_
      rintro e2 w2 ⟨lp, sp, S, L0, tv, lv, tnv0, tb, rfl, ha, hSS, hLL, hb3⟩
      have HB3 := Lib.hid (below_trans HB.out hb3)
      have HX3 := Lib.hid hb3
      have HA0 := Lib.hid ha
      have HNM := Lib.hid (lNames_any ha (by omega))
      clear ha hb3
      unfold pp at HNM ⊢
      go_wp2_with fail
      refine HNM.out.mono ?_
      rintro e4 w4 ⟨v4, rfl, hv4, hb4, -⟩
      obtain ⟨A4, c4, rfl, -, -⟩ := hv4.len_
      have HA4 := Lib.hid (HA0.out.below hb4)
      have HB4 := Lib.hid (below_trans HB3.out hb4)
      have hvv := (HV.out.below HX3.out (fun _ h => HV.out.lt h)).below hb4 (fun _ h => Nat.lt_of_lt_of_le (HV.out.lt h) HX3.out.size)
      have HTX := Lib.hid (texts_same A4 Av i c4 cv ((List.range i).map nm) w4 _ _ (by rw [← nms_map]; exact hv4.rd) (by rw [← nms_map]; exact hvv.rd) (by omega))
      clear hv4 hb4 hvv
      go_wp2_with fail
      refine HTX.out.mono ?_
      rintro e5 w5a ⟨rfl, q5, rfl⟩
      have HA5 := Lib.hid (HA4.out.below (below_drewN (Below.refl _ _) q5))
      have HB5 := Lib.hid (below_drewN HB4.out q5)
      have HRN := Lib.hid (lRun_any HA5.out HSM.out (Rn.zero i) (by simp) P np cp ps ((HP.out.below HB5.out).more HB.out.size) hcp (by omega))
      generalize w4.drewN q5 = w5 at *
      unfold pp at HRN
      go_wp2_with fail
      refine HRN.out.mono ?_
      rintro e6 w6 ⟨k, rfl, hst, L', tnv', tn', ha6, -, -, hO6⟩
      have HLE : Hid (Le (fjs bs) (runTk (fjs bs) ps i (List.replicate i 0) k)) := le_run (fun j hj => by
        have hj' : j < bs.length := by simpa [fjs] using hj
        rw [fjs_get hj', List.getD_eq_getElem?_getD, List.getElem?_replicate]
        show (if _ then _ else _ : Option Int).getD 0 ≤ ((bs[j].toNat % 50 : Nat) : Int)
        split <;> simp <;> omega) (Rn.zero i) HSM.out HJL.out k hst.2
      have HRR : Hid (Rn i (runTk (fjs bs) ps i (List.replicate i 0) k) (0 + k)) := runTk_rn (Rn.zero i) HSM.out HJL.out k hst.2
      have HB6 : Hid (Below w.heap.size w w6) := HB5.out.trans (hO6.below HB5.out.size fun q hq => by rcases hq with h | h; exact Nat.le_trans HB.out.size (hSS q h); exact Nat.le_trans HB.out.size (hLL q h))
      have HA6 := Lib.hid ha6
      have hpk0 := hst.1
      clear ha6 hst hO6
      generalize runTk (fjs bs) ps i (List.replicate i 0) k = tk at *
      have hdone : ∀ j, (hj : j < bs.length) → tk.getD j 0 = ((bs[j].toNat % 50 : Nat) : Int) := free_done HLE.out (p := pk ps k) (by rw [HBL.out]; exact hpk0)
      have HDN := Lib.hid hdone
      have hsum := sum_tot hdone (by rw [HRR.out.len, HBL.out])
      rw [HRR.out.sum, HBL.out] at hsum
      have htot : totF bs i = k := by omega
      rw [htot]
      have HOV := Lib.hid (lOver_any HA6.out (by omega))
      have hov : allOver (fjs bs) tk i := fun j hj => by
        have hj' : j < bs.length := by rw [HBL.out]; exact hj
        unfold overP
        rw [fjs_get hj', HDN.out j hj']
        exact Int.le_refl _
      have HAO := Lib.hid hov
      clear hdone hsum hpk0 hov htot HRR HLE
      go_wp2_with fail
      go_loopw [12] (fun jv wr => ∃ j q : Nat, j ≤ i ∧ jv = .int .i64 j ∧ wr = w6.drewN q) (fun jv _ => i - (intOf jv).toNat)
      case atStart => exact ⟨0, 0, by omega, rfl, rfl⟩
      case round =>
        obtain ⟨j, q, hj, rfl, rfl⟩ := hrel
        by_cases hlt : j < i
        · have j1 : (j : Int) < (i : Int) := by omega
          have j2 : (0 : Int) ≤ (j : Int) := by omega
          have hc1 := HA6.out.sa.c1
          obtain ⟨g, off, cap, rfl, hk1, -, -, -⟩ := HA6.out.sa.tat hlt
          obtain ⟨b, o, rfl, hk2, -, -⟩ := HA6.out.sa.jat hlt
          have hjb : j < bs.length := by rw [HBL.out]; exact hlt
          rw [HDN.out j hjb] at hk1
          rw [fjs_get hjb] at hk2
          unfold fjob at hk2
          simp only at hk2
          generalize ((bs[j].toNat % 50 : Nat) : Int) = x at *
          go_wp2_with fail
          go_quiet (fail)
          go_wp2
          go_roundw
          case rel => exact ⟨j + 1, q + nq, by omega, by go_num, by simp⟩
          case measure => simp [intOf]; omega
        · have j1 : ¬ (j : Int) < (i : Int) := by omega
          have HOV2 := Lib.hid (lOver_any (HA6.out.below (below_drewN (Below.refl _ _) q)) (by omega))
          rw [decide_eq_true HAO.out] at HOV2
          unfold pp at HOV2
          go_wp2_with fail
          refine HOV2.out.mono ?_
          rintro e7 w7 ⟨rfl, hb7⟩
          have HB7 := Lib.hid (below_trans (below_drewN HB6.out q) hb7)
          clear hb7
          go_wp2_with fail
          go_ret
          exact ⟨rfl, HB7.out⟩
end Go.Proofs.Ytamgngmbbbegpaa
