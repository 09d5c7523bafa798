/-
  The law PipeWaits of reedbedlaw14 returns true; no condition beyond those that each theorem states.
-/
import Derived.Test.YtfndppjicneliaaBack14
namespace Go.Proofs.Ytfndppjicneliaa
open Go.RowKit Go.Rb
attribute [local irreducible] Go.wpQuiet

theorem rng_wait0 (k i m : Nat) (c : Bool) (n : Int) (s : Nat) (h1 : i ≤ s) (h2 : s < i + m) : waitsO (GS k (rng i m) c n) (s : Int) = decide ((k : Int) ≤ (s : Int) - (i : Int)) := by
  rw [rng_waits, decide_eq_decide]; omega
theorem It0_v : It0.v = .agg #[.int .i64 0, .int .i64 0, .int .i64 0, .int .i64 0, .string ⟨#[]⟩, .slice none 0 0, .int .i64 0] := rfl
set_option maxRecDepth 20000 in
set_option maxHeartbeats 16000000 in
theorem waitsLaw_any (room n : Int) (hr : 0 ≤ room ∧ room ≤ 255) (hn : 0 ≤ n ∧ n ≤ 255) (w : World) :
    Calls Try.prog 5 #[.int .u8 room, .int .u8 n] w fun e w' => e = .returned (.bool true) ∧ Below w.heap.size w w' := by
  obtain ⟨k, hk, hk65⟩ := tmodN hr.1 (d := 65) (by omega)
  obtain ⟨m, hm, hm90⟩ := tmodN hn.1 (d := 90) (by omega)
  have hk' : room.tmod 65 = (k : Int) := hk
  have hm' : n.tmod 90 = (m : Int) := hm
  obtain ⟨hr1, hr2⟩ := hr
  obtain ⟨hn1, hn2⟩ := hn
  have HNW := Lib.hid (fun W => new_ok k W (by omega))
  clear hk hm
  go_enter Try.func5, Try.ntmps5
  go_wp2_with fail
  refine (awake_any _).mono ?_
  rintro e1 w1 ⟨rfl, hb1⟩
  have HB1 := Lib.hid hb1
  clear hb1
  go_wp2_with fail
  refine (HNW.out w1).mono ?_
  rintro e2 w2 ⟨rfl, hb2, hr2, hs2⟩
  have HB2 := Lib.hid (below_trans HB1.out hb2)
  have hI2 := In.new (B := w.heap.size) hr2 hs2 HB1.out.size
  rw [gs_new] at hI2
  have HI2 := Lib.hid hI2
  clear hb2 hr2 hs2 hI2
  generalize w1.heap.size = p at *
  unfold pp
  go_wp2_with fail
  go_loopw [9] (fun iv wr => ∃ i : Nat, i ≤ m ∧ iv = .int .i64 i ∧ In w.heap.size (fun _ => False) wr p (GS k (rng 0 i) false (i : Int)) ∧ Below w.heap.size w wr) (fun iv _ => m - (intOf iv).toNat)
  case atStart => exact ⟨0, by omega, rfl, HI2.out, HB2.out⟩
  case round =>
    obtain ⟨i, hi, rfl, hin, hbw⟩ := hrel
    have HB := Lib.hid hbw
    have HI := Lib.hid hin
    clear hin hbw
    by_cases hlt : i < m
    · have j1 : (i : Int) < (m : Int) := by omega
      have e1 := rng_step k 0 i
      rw [Nat.zero_add, Nat.zero_add] at e1
      obtain ⟨e1, e2, e3⟩ := e1
      have HSD := Lib.hid (HI.out.send (i : Int) (itN (i : Int)) (by rw [gs_inn, rng_len]; omega) (by rw [gs_ofs, rng_len]; omega) (by show -1000000 ≤ (i : Int) ∧ (i : Int) ≤ 1000000; omega))
      rw [e1, e2, e3, itN_v] at HSD
      clear e1 e2 e3
      have hwt : waitsO (GS k (rng 0 (i + 1)) false ((i + 1 : Nat) : Int)) (i : Int) = decide (k ≤ i) := by rw [rng_waits, decide_eq_decide]; omega
      have HWT := Lib.hid hwt
      clear hwt
      unfold pp at HSD
      go_wp2_with (go_at_call 9; refine HSD.out.mono ?_; rintro e5 w5 ⟨rfl, hd5⟩; have hww := hd5.inn.waits (i : Int) (by rw [gs_ofs, rng_len]; omega); rw [HWT.out] at hww; have HWW := Lib.hid hww; unfold pp at HWW; have HB5 := Lib.hid (HB.out.trans hd5.bel); clear hd5 hww)
      refine HWW.out.mono ?_
      rintro e6 w6 ⟨rfl, hd6⟩
      have HD6 := Lib.hid hd6
      have HB6 := Lib.hid (HB5.out.trans hd6.bel)
      clear hd6
      go_wp2_with fail
      go_roundw
      case rel => exact ⟨i + 1, by omega, by go_num, HD6.out.inn, HB6.out⟩
      case measure => simp [intOf]; omega
    · have j1 : ¬ (i : Int) < (m : Int) := by omega
      have e : i = m := by omega
      have HI3 : Hid (In w.heap.size (fun _ => False) wr p (GS k (rng 0 m) false (m : Int))) := by rw [← e]; exact HI.out
      clear HI e
      go_wp2_with fail
      go_loopw [12] (fun iv wr => ∃ i : Nat, i ≤ m ∧ iv = .int .i64 i ∧ In w.heap.size (fun _ => False) wr p (GS k (rng i (m - i)) false (m : Int)) ∧ Below w.heap.size w wr) (fun iv _ => m - (intOf iv).toNat)
      case atStart => exact ⟨0, by omega, rfl, HI3.out, HB.out⟩
      case round =>
        clear HI3 HB hlt j1 hi
        obtain ⟨i, hi, rfl, hin, hbw⟩ := hrel
        have HB := Lib.hid hbw
        have HI := Lib.hid hin
        clear hin hbw
        by_cases hlt : i < m
        · have j1 : (i : Int) < (m : Int) := by omega
          go_wp2_with fail
          go_loopw [13] (fun sv wr => ∃ s : Nat, i ≤ s ∧ s ≤ m ∧ sv = .int .i64 s ∧ In w.heap.size (fun _ => False) wr p (GS k (rng i (m - i)) false (m : Int)) ∧ Below w.heap.size w wr) (fun sv _ => m - (intOf sv).toNat)
          case atStart => exact ⟨i, by omega, by omega, rfl, HI.out, HB.out⟩
          case round =>
            clear HI HB
            obtain ⟨s, his, hs, rfl, hin, hbw⟩ := hrel
            have HB := Lib.hid hbw
            have HI := Lib.hid hin
            clear hin hbw
            by_cases hls : s < m
            · have j2 : (s : Int) < (m : Int) := by omega
              have hww := HI.out.waits (s : Int) (by rw [gs_ofs, rng_len]; omega)
              rw [rng_wait0 k i (m - i) false (m : Int) s his (by omega)] at hww
              have HWW := Lib.hid hww
              unfold pp at HWW
              clear hww
              have b1 : 0 ≤ (s : Int) - (i : Int) := by omega
              have b2 : (s : Int) - (i : Int) ≤ 100 := by omega
              go_wp2_with fail
              refine HWW.out.mono ?_
              rintro e6 w6 ⟨rfl, hd6⟩
              have HD6 := Lib.hid hd6
              have HB6 := Lib.hid (HB.out.trans hd6.bel)
              clear hd6
              go_wp2_with fail
              go_roundw
              case rel => exact ⟨s + 1, by omega, by omega, by go_num, HD6.out.inn, HB6.out⟩
              case measure => simp [intOf]; omega
            · have j2 : ¬ (s : Int) < (m : Int) := by omega
              have hcl := HI.out.close
              have hce := gs_close k (rng i (m - i)) false (m : Int)
              rw [rng_len] at hce
              simp only [Bool.false_eq_true, if_false] at hce
              have htk : ∀ W, In w.heap.size (fun _ => False) W p (GS k (rng i (m - i)) false (m : Int)) → Calls Try.prog 10 #[pp p] W fun e w' => e = .returned (.tuple #[(itN (i : Int)).v, .int .i64 0]) ∧ Did w.heap.size (fun _ => False) W p (GS k (rng (i + 1) (m - (i + 1))) false (m : Int)) w' := fun W h => by
                have := h.take (by rw [gs_inn, rng_len]; omega)
                obtain ⟨e1, e2, e3⟩ := gs_take k ((i : Int), itN (i : Int)) (rng (i + 1) (m - (i + 1))) false (m : Int)
                rw [show m - i = (m - (i + 1)) + 1 from by omega, rng_cons, e1, e2, e3] at this
                exact this
              have HTK := Lib.hid htk
              rw [itN_v] at HTK
              clear htk
              unfold pp at HTK
              by_cases hkm : k < m - i
              · have j3 : (k : Int) < (m : Int) - (i : Int) := by omega
                rw [if_pos hkm] at hce
                have hcs : closeS (GS k (rng i (m - i)) false (m : Int)) = GS k (rng i (m - i)) false (m : Int) := by unfold closeS; rw [hce]; rfl
                rw [hce, hcs] at hcl
                have HCL := Lib.hid hcl
                unfold pp at HCL
                clear hcl hce hcs
                go_wp2_with (first
                  | (go_at_call 15; refine HCL.out.mono ?_; rintro e6 w6 ⟨rfl, hd6⟩; have HD6 := Lib.hid hd6; have HB6 := Lib.hid (HB.out.trans hd6.bel); clear hd6)
                  | (go_at_call 10; refine (HTK.out _ HD6.out.inn).mono ?_; rintro e7 w7 ⟨rfl, hd7⟩; have HD7 := Lib.hid hd7; have HB7 := Lib.hid (HB6.out.trans hd7.bel); clear hd7))
                go_roundw
                case rel => exact ⟨i + 1, by omega, by go_num, HD7.out.inn.below (below_al (Below.refl _ _) _), HB7.out.alloc HB7.out.size _⟩
                case measure => simp [intOf]; omega
              · have j3 : ¬ (k : Int) < (m : Int) - (i : Int) := by omega
                clear hcl hce
                go_wp2_with (go_at_call 10; refine (HTK.out _ HI.out).mono ?_; rintro e7 w7 ⟨rfl, hd7⟩; have HD7 := Lib.hid hd7; have HB7 := Lib.hid (HB.out.trans hd7.bel); clear hd7)
                go_roundw
                case rel => exact ⟨i + 1, by omega, by go_num, HD7.out.inn.below (below_al (Below.refl _ _) _), HB7.out.alloc HB7.out.size _⟩
                case measure => simp [intOf]; omega
        · have j1 : ¬ (i : Int) < (m : Int) := by omega
          have e : i = m := by omega
          have HI4 : Hid (In w.heap.size (fun _ => False) wr p (GS k [] false (m : Int))) := by
            have := HI.out
            rw [e, Nat.sub_self] at this
            exact this
          clear HI e
          have hw0 : waitsO (GS k [] false (m : Int)) 1 = false := by
            rw [Bool.eq_false_iff]
            intro h
            obtain ⟨o, ho, -⟩ := (waits_iff _ _).1 h
            simp [GS] at ho
          obtain ⟨e1, e2, -⟩ := gs_send k [] (m : Int) 1 It0 hw0
          have hsd := HI4.out.send 1 It0 (by rw [gs_inn]; simp) (by rw [gs_ofs]; simp) (by show -1000000 ≤ (m : Int) ∧ (m : Int) ≤ 1000000; omega)
          rw [e1, e2, List.nil_append, It0_v] at hsd
          have HSD := Lib.hid hsd
          generalize sendV (GS k [] false (m : Int)) 1 = sv at *
          clear hw0 e1 e2 hsd HI4
          unfold pp at HSD
          by_cases hk0 : 0 < k
          · have j3 : (0 : Int) < (k : Int) := by omega
            go_wp2_with fail
            refine HSD.out.mono ?_
            rintro e6 w6 ⟨rfl, hd6⟩
            have HB6 := Lib.hid (HB.out.trans hd6.bel)
            have htk := hd6.inn.take (by rw [gs_inn]; simp; omega)
            obtain ⟨f1, f2, f3⟩ := gs_take k (1, It0) [] false ((m : Int) + 1)
            rw [f1, f2, f3, It0_v] at htk
            have HTK := Lib.hid htk
            have HZ2 : Hid (-1000000 ≤ (m : Int) + 1 ∧ (m : Int) + 1 ≤ 1000000) := (by omega : -1000000 ≤ (m : Int) + 1 ∧ (m : Int) + 1 ≤ 1000000)
            generalize (m : Int) + 1 = z at *
            unfold pp at HTK
            clear hd6 htk f1 f2 f3
            go_wp2_with fail
            refine HTK.out.mono ?_
            rintro e7 w7 ⟨rfl, hdx⟩
            have HIx := Lib.hid hdx.inn
            have HBx := Lib.hid (HB6.out.trans hdx.bel)
            have hcl := HIx.out.close
            have hce := gs_close k [] false z
            simp only [Bool.false_eq_true, if_false, List.length_nil, Nat.not_lt_zero] at hce
            have hcs : closeS (GS k [] false z) = GS k [] true z := by unfold closeS; rw [hce]; rfl
            rw [hce, hcs] at hcl
            have HCL := Lib.hid hcl
            unfold pp at HCL
            clear hdx hcl hce hcs
            go_wp2_with fail
            refine HCL.out.mono ?_
            rintro e8 w8 ⟨rfl, hd8⟩
            have HB8 := Lib.hid (HBx.out.trans hd8.bel)
            have hcl := hd8.inn.close
            have hce := gs_close k [] true z
            simp only [if_true] at hce
            have hcs : closeS (GS k [] true z) = GS k [] true z := by unfold closeS; rw [hce]; rfl
            rw [hce, hcs] at hcl
            have HCL2 := Lib.hid hcl
            unfold pp at HCL2
            clear hd8 hcl hce hcs
            go_wp2_with fail
            refine HCL2.out.mono ?_
            rintro e9 w9 ⟨rfl, hd9⟩
            have HB9 := Lib.hid (HB8.out.trans hd9.bel)
            have hsd := hd9.inn.send 1 It0 (by rw [gs_inn]; simp) (by rw [gs_ofs]; simp) HZ2.out
            rw [show sendV (GS k [] true z) 1 = false from rfl, show sendE (GS k [] true z) 1 = 17 from rfl, show sendS (GS k [] true z) 1 It0 = GS k [] true z from rfl, It0_v] at hsd
            have HSD2 := Lib.hid hsd
            unfold pp at HSD2
            clear hd9 hsd
            go_wp2_with fail
            refine HSD2.out.mono ?_
            rintro e10 w10 ⟨rfl, hd10⟩
            have HB10 := Lib.hid (HB9.out.trans hd10.bel)
            have htk := hd10.inn.take (by rw [gs_inn]; simp)
            obtain ⟨f1, f2, f3⟩ := gs_none k true z
            simp only [if_true] at f2
            rw [f1, f2, f3, It0_v] at htk
            have HTK2 := Lib.hid htk
            unfold pp at HTK2
            clear hd10 htk f1 f2 f3
            go_wp2_with fail
            refine HTK2.out.mono ?_
            rintro e11 w11 ⟨rfl, hd11⟩
            have HB11 := Lib.hid (HB10.out.trans hd11.bel)
            have hi12 := hd11.inn.below (below_al (Below.refl _ w11) (.cells #[.int .i64 0, .int .i64 0, .int .i64 0, .int .i64 0, .string ⟨#[]⟩, .slice none 0 0, .int .i64 0] 34))
            have HB12 := Lib.hid (HB11.out.alloc HB11.out.size (.cells #[.int .i64 0, .int .i64 0, .int .i64 0, .int .i64 0, .string ⟨#[]⟩, .slice none 0 0, .int .i64 0] 34))
            have hrd := hi12.ready (by rw [gs_inn]; simp) (by rw [gs_ofs]; simp)
            rw [gs_ready, Bool.or_true] at hrd
            have HRD := Lib.hid hrd
            have HI12 := Lib.hid hi12
            unfold pp at HRD
            clear hd11 hi12 hrd
            go_wp2_with fail
            refine HRD.out.mono ?_
            rintro e13 w13 ⟨rfl, q13, rfl⟩
            have HB13 := Lib.hid (below_drewN HB12.out q13)
            have hcd := (HI12.out.below (below_drewN (Below.refl _ _) q13)).closed
            rw [show (GS k [] true z).cl = true from rfl] at hcd
            have HCD := Lib.hid hcd
            unfold pp at HCD
            clear hcd
            go_wp2_with fail
            refine HCD.out.mono ?_
            rintro e14 w14 ⟨rfl, rfl⟩
            go_wp2_with fail
            go_ret
            exact ⟨rfl, HB13.out⟩
          · obtain rfl : k = 0 := by omega
            go_wp2_with fail
            refine HSD.out.mono ?_
            rintro e6 w6 ⟨rfl, hd6⟩
            have HB6 := Lib.hid (HB.out.trans hd6.bel)
            have htk := hd6.inn.withdraw 1 (by rw [gs_ofs]; simp) (by show -1000000 ≤ (m : Int) + 1 ∧ (m : Int) + 1 ≤ 1000000; omega)
            obtain ⟨f1, f2⟩ := gs_wd 0 [(1, It0)] false ((m : Int) + 1) 1 0 (by simp) rfl
            rw [f1, f2, show ([(1, It0)] : List Of).eraseIdx (0 + 0) = [] from rfl] at htk
            have HTK := Lib.hid htk
            have HZ2 : Hid (-1000000 ≤ (m : Int) + 1 - 1 ∧ (m : Int) + 1 - 1 ≤ 1000000) := (by omega : -1000000 ≤ (m : Int) + 1 - 1 ∧ (m : Int) + 1 - 1 ≤ 1000000)
            generalize (m : Int) + 1 - 1 = z at *
            unfold pp at HTK
            clear hd6 htk f1 f2
            go_wp2_with fail
            refine HTK.out.mono ?_
            rintro e7 w7 ⟨rfl, hdx⟩
            have HIx := Lib.hid hdx.inn
            have HBx := Lib.hid (HB6.out.trans hdx.bel)
            have hcl := HIx.out.close
            have hce := gs_close 0 [] false z
            simp only [Bool.false_eq_true, if_false, List.length_nil, Nat.not_lt_zero] at hce
            have hcs : closeS (GS 0 [] false z) = GS 0 [] true z := by unfold closeS; rw [hce]; rfl
            rw [hce, hcs] at hcl
            have HCL := Lib.hid hcl
            unfold pp at HCL
            clear hdx hcl hce hcs
            go_wp2_with fail
            refine HCL.out.mono ?_
            rintro e8 w8 ⟨rfl, hd8⟩
            have HB8 := Lib.hid (HBx.out.trans hd8.bel)
            have hcl := hd8.inn.close
            have hce := gs_close 0 [] true z
            simp only [if_true] at hce
            have hcs : closeS (GS 0 [] true z) = GS 0 [] true z := by unfold closeS; rw [hce]; rfl
            rw [hce, hcs] at hcl
            have HCL2 := Lib.hid hcl
            unfold pp at HCL2
            clear hd8 hcl hce hcs
            go_wp2_with fail
            refine HCL2.out.mono ?_
            rintro e9 w9 ⟨rfl, hd9⟩
            have HB9 := Lib.hid (HB8.out.trans hd9.bel)
            have hsd := hd9.inn.send 1 It0 (by rw [gs_inn]; simp) (by rw [gs_ofs]; simp) HZ2.out
            rw [show sendV (GS 0 [] true z) 1 = false from rfl, show sendE (GS 0 [] true z) 1 = 17 from rfl, show sendS (GS 0 [] true z) 1 It0 = GS 0 [] true z from rfl, It0_v] at hsd
            have HSD2 := Lib.hid hsd
            unfold pp at HSD2
            clear hd9 hsd
            go_wp2_with fail
            refine HSD2.out.mono ?_
            rintro e10 w10 ⟨rfl, hd10⟩
            have HB10 := Lib.hid (HB9.out.trans hd10.bel)
            have htk := hd10.inn.take (by rw [gs_inn]; simp)
            obtain ⟨f1, f2, f3⟩ := gs_none 0 true z
            simp only [if_true] at f2
            rw [f1, f2, f3, It0_v] at htk
            have HTK2 := Lib.hid htk
            unfold pp at HTK2
            clear hd10 htk f1 f2 f3
            go_wp2_with fail
            refine HTK2.out.mono ?_
            rintro e11 w11 ⟨rfl, hd11⟩
            have HB11 := Lib.hid (HB10.out.trans hd11.bel)
            have hi12 := hd11.inn.below (below_al (Below.refl _ w11) (.cells #[.int .i64 0, .int .i64 0, .int .i64 0, .int .i64 0, .string ⟨#[]⟩, .slice none 0 0, .int .i64 0] 34))
            have HB12 := Lib.hid (HB11.out.alloc HB11.out.size (.cells #[.int .i64 0, .int .i64 0, .int .i64 0, .int .i64 0, .string ⟨#[]⟩, .slice none 0 0, .int .i64 0] 34))
            have hrd := hi12.ready (by rw [gs_inn]; simp) (by rw [gs_ofs]; simp)
            rw [gs_ready, Bool.or_true] at hrd
            have HRD := Lib.hid hrd
            have HI12 := Lib.hid hi12
            unfold pp at HRD
            clear hd11 hi12 hrd
            go_wp2_with fail
            refine HRD.out.mono ?_
            rintro e13 w13 ⟨rfl, q13, rfl⟩
            have HB13 := Lib.hid (below_drewN HB12.out q13)
            have hcd := (HI12.out.below (below_drewN (Below.refl _ _) q13)).closed
            rw [show (GS 0 [] true z).cl = true from rfl] at hcd
            have HCD := Lib.hid hcd
            unfold pp at HCD
            clear hcd
            go_wp2_with fail
            refine HCD.out.mono ?_
            rintro e14 w14 ⟨rfl, rfl⟩
            go_wp2_with fail
            go_ret
            exact ⟨rfl, HB13.out⟩
end Go.Proofs.Ytfndppjicneliaa
