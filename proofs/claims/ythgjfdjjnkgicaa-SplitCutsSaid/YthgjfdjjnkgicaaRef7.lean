/-
  The contract of the document's All; no condition beyond those that each theorem states.
-/
import Derived.Test.YthgjfdjjnkgicaaSplit4
import Derived.Deep.CutRange
namespace Go.Proofs.Ythgjfdjjnkgicaa
open Go.RowKit Go.Rb
attribute [local irreducible] Go.wpQuiet

theorem part_long (most : Nat) (R : Res) (h : R.long = true) : part most R = (R.out, 10, 0) := by unfold part; rw [if_pos h]
theorem fin_long (most : Nat) (R : Res) (h : R.long = true) : fin most R = (R.out, 10) := by unfold fin; rw [if_pos h]
theorem rf_long (en : Bool) (most : Nat) (x : List UInt8) (h : (recs most x [] 0 0).long = true) : rf en most x = ((recs most x [] 0 0).out, 10, 0) := by
  unfold rf al
  rw [part_long most _ h, fin_long most _ h]
  cases en <;> rfl
set_option maxHeartbeats 8000000 in
theorem ref_any (en : Bool) (most : Nat) (x : List UInt8) (w : World) (h1 : 1 ≤ most) (h2 : most ≤ 4096) (hx : x.length ≤ 1000000) :
    Calls Try.prog 9 #[.int .i64 (most : Int), .string (mk x), .bool en] w fun e w' => ∃ v, e = .returned (.tuple #[v, .int .i64 (rf en most x).2.1, .int .i64 ((rf en most x).2.2 : Int)]) ∧ Own w' 32 3 v (rf en most x).1.length (rcs (rf en most x).1) ∧ (∀ k, v.ownBlock = some k → w.heap.size ≤ k) ∧ Below w.heap.size w w' := by
  obtain ⟨i0, hi0, hz0, hz1, hz2⟩ := info_parts infoR
  have hzx := mk_size x
  have HLG := Lib.hid (rf_long en most x)
  have HPA := Lib.hid (show rf false most x = part most (recs most x [] 0 0) from rfl)
  have HFI := Lib.hid (show rf true most x = ((fin most (recs most x [] 0 0)).1, (fin most (recs most x [] 0 0)).2, 0) from rfl)
  have HR : Hid (recs most x [] 0 0 = pre [] (recs most x [] 0 0)) := rfl
  obtain ⟨R, hR⟩ : ∃ R, recs most x [] 0 0 = R := ⟨_, rfl⟩
  rw [hR] at HLG HPA HFI HR
  have HRR : Hid (R = pre [] (recs most (x.drop 0) (cut x 0 0) 0 0)) := by rw [cut_self, List.drop_zero, hR]; exact HR.out
  obtain ⟨F, hF⟩ : ∃ F, rf en most x = F := ⟨_, rfl⟩
  rw [hF] at HLG ⊢
  have HF := Lib.hid hF
  clear hF hR HR
  go_enter Try.func9, Try.ntmps9
  go_wp2_with fail
  go_loopw [9, 10, 11] (fun v av iv wr => ∃ (o : List Rc) (a i : Nat), Own wr 32 3 v o.length (rcs o) ∧ av = .int .i64 a ∧ iv = .int .i64 i ∧ Hid (∀ k, v.ownBlock = some k → w.heap.size ≤ k) ∧ Below w.heap.size w wr ∧ R = pre o (recs most (x.drop i) (cut x a i) a o.length) ∧ a ≤ i ∧ i ≤ x.length ∧ o.length ≤ i) (fun _ _ iv _ => x.length - (intOf iv).toNat)
  case atStart => exact ⟨[], 0, 0, Own.nil_ _ _ _, rfl, rfl, (show Hid _ from fun k hk => by simp [Value.ownBlock] at hk), Below.refl _ _, HRR.out, by omega, by omega, by simp⟩
  case round =>
    obtain ⟨o, a, i, hv, rfl, rfl, hkv, hbl, hrr, hai, hil, hoi⟩ := hrel
    obtain ⟨Av, cv, rfl, -, -⟩ := hv.len_
    have HV := Lib.hid hv
    have HB := Lib.hid hbl
    have HQ := Lib.hid hrr
    clear hv hbl hrr HRR
    by_cases hlt : i < x.length
    · have i1 : (i : Int) < (x.length : Int) := by omega
      have hix := idx_mk x x.length i rfl hlt wr
      by_cases hc : x.getD i 0 = 10
      · rw [hc] at hix
        obtain ⟨tt, ht1, ht2, ht3, ht4⟩ := trim_cut x a i hai hil
        have hrq := HQ.out
        rw [step_yes most x a i o.length hai hlt hc, ht3, cut_len x a tt (by omega)] at hrq
        have hixp := fun (hp : 1 ≤ i) => idx_mk x x.length (i - 1) rfl (by omega) wr
        by_cases hlg : most < tt - a
        · rw [if_pos hlg] at hrq
          have HE : Hid (F = (o, 10, 0)) := by
            show F = _; rw [HLG.out (by rw [hrq]; rfl), hrq]; simp [pre]
          have j1 : (most : Int) < (tt : Int) - (a : Int) := by omega
          clear hrq HQ HLG HPA HFI HF ht3
          rcases ht4 with ⟨hh1, hh2⟩ | ⟨hh1, hh2, hh3⟩ | ⟨hh1, hh2, hh3⟩
          · omega
          · have j2 : (a : Int) < (i : Int) := by omega
            have j3 : (i : Int) - 1 = ((i - 1 : Nat) : Int) := by omega
            have hix2 := hixp (by omega)
            rw [hh2] at hix2
            rw [hh3, ← j3] at j1
            clear hixp
            generalize mk x = b at *
            go_wp2_with (first | rw [hix] | rw [j3, hix2])
            go_returns
            rw [HE.out]
            exact ⟨_, rfl, HV.out, hkv.out, HB.out⟩
          · have j2 : (a : Int) < (i : Int) := by omega
            have j3 : (i : Int) - 1 = ((i - 1 : Nat) : Int) := by omega
            have hix2 := hixp (by omega)
            obtain ⟨ch, hch⟩ : ∃ ch, x.getD (i - 1) 0 = ch := ⟨_, rfl⟩
            rw [hch] at hix2 hh2
            have hcn : ((ch.toNat : Int) == 13) = false := by rw [beq_eq_false_iff_ne]; intro h; exact hh2 (UInt8.toNat_inj.1 (by simp; omega))
            rw [hh3] at j1
            clear hixp hch hh2
            generalize mk x = b at *
            go_wp2_with (first | rw [hix] | rw [j3, hix2])
            go_returns
            rw [HE.out]
            exact ⟨_, rfl, HV.out, hkv.out, HB.out⟩
        · rw [if_neg hlg, pre_pre] at hrq
          have HR5 := Lib.hid hrq
          have j1 : ¬ (most : Int) < (tt : Int) - (a : Int) := by omega
          have j5 : (a : Int) ≤ (tt : Int) := by omega
          have HRO : Hid (rcs (o ++ [⟨o.length, a, cut x a tt⟩]) = rcs o ++ [.int .i64 (o.length : Int), .int .i64 (a : Int), .string (mk (cut x a tt))]) := by rw [show Hid _ = _ from rfl, rcs_append]; rfl
          rw [← mk_cut] at HRO
          clear hrq HQ HLG HPA HFI HF ht3 hlg
          obtain ⟨lo, hlo⟩ : ∃ m, o.length = m := ⟨_, rfl⟩
          obtain ⟨lx, hlx⟩ : ∃ m, x.length = m := ⟨_, rfl⟩
          have HLO := Lib.hid hlo
          rw [hlo] at HV hoi HRO hkv ⊢
          obtain ⟨ro, hro⟩ : ∃ ro, rcs o = ro := ⟨_, rfl⟩
          rw [hro] at HV HRO
          rw [hlx] at hzx hx hil hlt i1 ⊢
          have HLX := Lib.hid hlx
          clear hlo hro hlx
          generalize mk x = b at *
          go_upto_if 23 with (rw [hix])
          have HI1 := Lib.hid i1
          rcases ht4 with ⟨hh1, hh2⟩ | ⟨hh1, hh2, hh3⟩ | ⟨hh1, hh2, hh3⟩
          case' inl =>
            have j2 : ¬ (a : Int) < (i : Int) := by omega
            have hti : (i : Int) = (tt : Int) := by omega
            have HTI := Lib.hid hti
            clear hh1 hh2 hti hixp hix
            go_upto_if 34 with fail
            go_cut [12] from 14 to 55 (fun tv wc => tv = .int .i64 (tt : Int) ∧ wc = wr)
            case first =>
              go_wp2_with fail
              go_meet
              case rel => exact ⟨by first | rw [HTI.out] | rw [← j3, HTI.out], rfl⟩
          case' inr.inl =>
            have j2 : (a : Int) < (i : Int) := by omega
            have j3 : (i : Int) - 1 = ((i - 1 : Nat) : Int) := by omega
            have hix2 := hixp (by omega)
            rw [hh2] at hix2
            have hti : (i : Int) - 1 = (tt : Int) := by omega
            have HTI := Lib.hid hti
            clear hh1 hh2 hh3 hti hixp hix
            go_upto_if 34 with (rw [j3, hix2])
            go_cut [12] from 14 to 55 (fun tv wc => tv = .int .i64 (tt : Int) ∧ wc = wr)
            case first =>
              go_wp2_with fail
              go_meet
              case rel => exact ⟨by first | rw [HTI.out] | rw [← j3, HTI.out], rfl⟩
          case' inr.inr =>
            have j2 : (a : Int) < (i : Int) := by omega
            have j3 : (i : Int) - 1 = ((i - 1 : Nat) : Int) := by omega
            have hix2 := hixp (by omega)
            obtain ⟨ch, hch⟩ : ∃ ch, x.getD (i - 1) 0 = ch := ⟨_, rfl⟩
            rw [hch] at hix2 hh2
            have hcn : ((ch.toNat : Int) == 13) = false := by rw [beq_eq_false_iff_ne]; intro h; exact hh2 (UInt8.toNat_inj.1 (by simp; omega))
            have hti : (i : Int) = (tt : Int) := by omega
            have HTI := Lib.hid hti
            clear hh1 hh2 hh3 hti hixp hch hix
            go_upto_if 34 with (rw [j3, hix2])
            go_cut [12] from 14 to 55 (fun tv wc => tv = .int .i64 (tt : Int) ∧ wc = wr)
            case first =>
              go_wp2_with fail
              go_meet
              case rel => exact ⟨by first | rw [HTI.out] | rw [← j3, HTI.out], rfl⟩
          all_goals
            (obtain ⟨rfl, rfl⟩ := hcut
             have k1 : (tt : Int) ≤ (lx : Int) := by omega
             go_wp2_with (at_builtin; go_loud (refine wpList_append_mine _ rfl (.tmp 43) (.tmp 52) _ rfl 32 i0 _ 3 32 Try.underlying23 hi0 hz0 hz1 hz2 rfl (by omega) (.slice Av lo cv) lo ro rfl (by exact HV.out.alloc _) _ 1 1 [.int .i64 (lo : Int), .int .i64 (a : Int), .string (b.extract a tt)] rfl rfl (by exact news_pushs rfl (by simp)) (by simp [Value.oneCell']) (by omega) (by simp only [maxLen]; omega) (by omega) _ rfl ?_; intro g5 o5 c5 w5 hown5 hgrow5 hat5; have HO5 := Lib.hid hown5; have HB5 := Lib.hid (Below.grown (below_al HB.out _) hgrow5 (by have := HB.out.size; simp; omega) (fun k hk => hkv.out k hk)); have HK5 : Hid (w.heap.size ≤ g5) := (by show _ ≤ _; rcases hat5 with h | h; exact hkv.out _ h; rw [h]; have h1 := HB.out.size; simp; omega); clear hown5 hgrow5 hat5))
             go_roundw
             case rel =>
               refine ⟨o ++ [⟨o.length, a, cut x a tt⟩], i + 1, i + 1, ?_, by go_num, by go_num, ?_, HB5.out, ?_, Nat.le_refl _, by omega, by simp only [List.length_append, List.length_cons, List.length_nil]; rw [HLO.out]; omega⟩
               · rw [HLO.out, HRO.out, List.length_append, HLO.out]; exact HO5.out
               · exact (show Hid _ from fun k hk => by simp [Value.ownBlock] at hk; rw [← hk]; exact HK5.out)
               · rw [List.length_append]; exact HR5.out
             case measure => simp [intOf]; omega)
      · have hcn0 := hc
        have hrq := HQ.out
        rw [step_no most x a i o.length hai hlt hc] at hrq
        have HR5 := Lib.hid hrq
        obtain ⟨ch, hch⟩ : ∃ ch, x.getD i 0 = ch := ⟨_, rfl⟩
        rw [hch] at hix hc
        have hcn : ((ch.toNat : Int) == 10) = false := by rw [beq_eq_false_iff_ne]; intro h; exact hc (UInt8.toNat_inj.1 (by simp; omega))
        clear hrq HQ hcn0 hch hc HLG HPA HFI HF
        obtain ⟨lx, hlx⟩ : ∃ m, x.length = m := ⟨_, rfl⟩
        rw [hlx] at hzx hx hil hlt i1 ⊢
        clear hlx
        generalize mk x = b at *
        go_wp2_with (rw [hix])
        go_roundw
        case rel => exact ⟨o, a, i + 1, HV.out, rfl, by go_num, hkv, HB.out, HR5.out, by omega, by omega, by omega⟩
        case measure => simp [intOf]; omega
    · have hii : i = x.length := by omega
      have hrq := HQ.out
      rw [hii, step_end most x a o.length] at hrq
      have hR : R = ⟨o, x.drop a, a, o.length, false⟩ := by rw [hrq]; simp [pre]
      have hdl : (x.drop a).length = x.length - a := by simp
      have i1 : ¬ (i : Int) < (x.length : Int) := by omega
      have hfin : ∀ b : Bool, rf b most x = F → F = if b then ((fin most R).1, (fin most R).2, 0) else part most R := fun b hb => by cases b; exact hb.symm.trans HPA.out; exact hb.symm.trans HFI.out
      have hF := hfin en HF.out
      rw [hR] at hF
      clear hfin hrq hR HQ HLG HPA HFI HF
      cases en with
      | true =>
        rw [if_pos rfl] at hF
        by_cases hn : a < x.length
        · have hne : x.drop a ≠ [] := by intro h; rw [h] at hdl; simp at hdl; omega
          have k0 : (0 : Int) < (x.length : Int) - (a : Int) := by omega
          by_cases hlg : most < x.length - a
          · have HE : Hid (F = (o, 10, 0)) := by show F = _; rw [hF]; simp [fin, hne, hdl, hlg]
            have k1 : (most : Int) < (x.length : Int) - (a : Int) := by omega
            clear hF hdl hne hii
            generalize mk x = b at *
            generalize x.length = lx at *
            go_wp2_with fail
            go_returns
            rw [HE.out]
            exact ⟨_, rfl, HV.out, hkv.out, HB.out⟩
          · have HE : Hid (F = (o ++ [⟨o.length, a, cut x a x.length⟩], 0, 0)) := by show F = _; rw [hF, cut_end]; simp [fin, hne, hdl, hlg]
            have k1 : ¬ (most : Int) < (x.length : Int) - (a : Int) := by omega
            have HRO : Hid (rcs (o ++ [⟨o.length, a, cut x a x.length⟩]) = rcs o ++ [.int .i64 (o.length : Int), .int .i64 (a : Int), .string (mk (cut x a x.length))]) := by rw [show Hid _ = _ from rfl, rcs_append]; rfl
            rw [← mk_cut] at HRO
            clear hF hdl hne hii
            obtain ⟨lo, hlo⟩ : ∃ m, o.length = m := ⟨_, rfl⟩
            obtain ⟨lx, hlx⟩ : ∃ m, x.length = m := ⟨_, rfl⟩
            obtain ⟨b, hb⟩ : ∃ b, mk x = b := ⟨_, rfl⟩
            rw [hlo, hlx, hb] at HRO
            rw [hlo] at HV hoi hkv HE ⊢
            rw [hlx] at HE hzx hx hil hlt i1 k0 k1 hlg hn
            rw [hb] at hzx ⊢
            have HLO := Lib.hid hlo
            obtain ⟨ro, hro⟩ : ∃ ro, rcs o = ro := ⟨_, rfl⟩
            rw [hro] at HV HRO
            clear hlo hlx hb hro
            have k2 : (a : Int) ≤ (lx : Int) := by omega
            go_wp2_with (at_builtin; go_loud (refine wpList_append_mine _ rfl (.tmp 69) (.tmp 77) _ rfl 32 i0 _ 3 32 Try.underlying23 hi0 hz0 hz1 hz2 rfl (by omega) (.slice Av lo cv) lo ro rfl (by exact HV.out.alloc _) _ 1 1 [.int .i64 (lo : Int), .int .i64 (a : Int), .string (b.extract a lx)] rfl rfl (by exact news_pushs rfl (by simp)) (by simp [Value.oneCell']) (by omega) (by simp only [maxLen]; omega) (by omega) _ rfl ?_; intro g5 o5 c5 w5 hown5 hgrow5 hat5; have HO5 := Lib.hid hown5; have HB5 := Lib.hid (Below.grown (below_al HB.out _) hgrow5 (by have := HB.out.size; simp; omega) (fun k hk => hkv.out k hk)); have HK5 : Hid (w.heap.size ≤ g5) := (by show _ ≤ _; rcases hat5 with h | h; exact hkv.out _ h; rw [h]; have h1 := HB.out.size; simp; omega); clear hown5 hgrow5 hat5))
            go_returns
            rw [HE.out]
            refine ⟨_, rfl, ?_, ?_, HB5.out⟩
            · show Own _ _ _ _ (o ++ [_]).length _
              rw [HRO.out, List.length_append, HLO.out]; exact HO5.out
            · exact fun k hk => by simp [Value.ownBlock] at hk; rw [← hk]; exact HK5.out
        · have he : x.drop a = [] := by rw [← List.length_eq_zero_iff]; omega
          have HE : Hid (F = (o, 0, 0)) := by show F = _; rw [hF]; simp [fin, he]
          have k0 : ¬ (0 : Int) < (x.length : Int) - (a : Int) := by omega
          have k1 : ¬ (most : Int) + 1 < (x.length : Int) - (a : Int) := by omega
          have k2 : ((x.length : Int) - (a : Int) == (most : Int) + 1) = false := by rw [beq_eq_false_iff_ne]; omega
          have HM : Hid ((x.length : Int) - (a : Int) = 0) := by show _ = _; omega
          clear hF hdl he hii
          generalize mk x = b at *
          obtain ⟨lx, hlx⟩ : ∃ m, x.length = m := ⟨_, rfl⟩
          rw [hlx] at hzx hx hil hlt i1 k0 k1 k2 hn HM
          clear hlx
          go_wp2_with fail
          go_returns
          rw [HE.out, HM.out]
          exact ⟨_, rfl, HV.out, hkv.out, HB.out⟩
      | false =>
        rw [if_neg (by decide)] at hF
        obtain ⟨m, hm⟩ : ∃ m, x.length - a = m := ⟨_, rfl⟩
        have HM : Hid ((x.length : Int) - (a : Int) = (m : Int)) := by show _ = _; omega
        have hF2 : F = if tooLong most (x.drop a) then (o, 10, 0) else (o, 0, m) := by rw [hF, ← hm, ← hdl]; rfl
        have hgd : 0 < m → (x.drop a).getD ((x.drop a).length - 1) 0 = x.getD (x.length - 1) 0 := fun h => by
          rw [List.getD_eq_getElem?_getD, List.getD_eq_getElem?_getD, List.getElem?_drop, hdl]
          congr 2; omega
        have hixp := fun (hp : 0 < x.length) => idx_mk x x.length (x.length - 1) rfl (by omega) wr
        rcases Nat.lt_trichotomy m (most + 1) with hlt' | heq | hgt
        · have htl : tooLong most (x.drop a) = false := by unfold tooLong; rw [decide_eq_false (by omega), decide_eq_false (by omega)]; rfl
          rw [htl, if_neg (by decide)] at hF2
          have HE := Lib.hid hF2
          have k1 : ¬ (most : Int) + 1 < (x.length : Int) - (a : Int) := by omega
          have k2 : ((x.length : Int) - (a : Int) == (most : Int) + 1) = false := by rw [beq_eq_false_iff_ne]; omega
          clear hF hF2 hdl hii hgd htl hixp hm
          generalize mk x = b at *
          obtain ⟨lx, hlx⟩ : ∃ m, x.length = m := ⟨_, rfl⟩
          rw [hlx] at hzx hx hil hlt i1 k1 k2 HM
          clear hlx
          go_wp2_with fail
          go_returns
          rw [HE.out, HM.out]
          exact ⟨_, rfl, HV.out, hkv.out, HB.out⟩
        · have k1 : ¬ (most : Int) + 1 < (x.length : Int) - (a : Int) := by omega
          have k2 : ((x.length : Int) - (a : Int) == (most : Int) + 1) = true := by rw [beq_iff_eq]; omega
          have j3 : (x.length : Int) - 1 = ((x.length - 1 : Nat) : Int) := by omega
          have hix2 := hixp (by omega)
          have hgd' := hgd (by omega)
          by_cases hc : x.getD (x.length - 1) 0 = 13
          · have htl : tooLong most (x.drop a) = false := by unfold tooLong; rw [decide_eq_false (by omega), hgd', hc]; simp
            rw [htl, if_neg (by decide)] at hF2
            have HE := Lib.hid hF2
            rw [hc] at hix2
            clear hF hF2 hdl hii hgd htl hixp hm hgd' hc heq
            generalize mk x = b at *
            obtain ⟨lx, hlx⟩ : ∃ m, x.length = m := ⟨_, rfl⟩
            rw [hlx] at hzx hx hil hlt i1 k1 k2 HM j3 hix2
            clear hlx
            go_wp2_with (rw [j3, hix2])
            go_returns
            rw [HE.out, HM.out]
            exact ⟨_, rfl, HV.out, hkv.out, HB.out⟩
          · have htl : tooLong most (x.drop a) = true := by unfold tooLong; rw [decide_eq_false (by omega), hgd', decide_eq_true (by omega), show (x.getD (x.length - 1) 0 == 13) = false from by rw [beq_eq_false_iff_ne]; exact hc]; rfl
            rw [htl, if_pos rfl] at hF2
            have HE := Lib.hid hF2
            obtain ⟨ch, hch⟩ : ∃ ch, x.getD (x.length - 1) 0 = ch := ⟨_, rfl⟩
            rw [hch] at hix2 hc
            have hcn : ((ch.toNat : Int) == 13) = false := by rw [beq_eq_false_iff_ne]; intro h; exact hc (UInt8.toNat_inj.1 (by simp; omega))
            clear hF hF2 hdl hii hgd htl hixp hm hgd' hc hch heq
            generalize mk x = b at *
            obtain ⟨lx, hlx⟩ : ∃ m, x.length = m := ⟨_, rfl⟩
            rw [hlx] at hzx hx hil hlt i1 k1 k2 HM j3 hix2
            clear hlx
            go_wp2_with (rw [j3, hix2])
            go_returns
            rw [HE.out]
            exact ⟨_, rfl, HV.out, hkv.out, HB.out⟩
        · have htl : tooLong most (x.drop a) = true := by unfold tooLong; rw [decide_eq_true (by omega)]; rfl
          rw [htl, if_pos rfl] at hF2
          have HE := Lib.hid hF2
          have k1 : (most : Int) + 1 < (x.length : Int) - (a : Int) := by omega
          clear hF hF2 hdl hii hgd htl hixp hm
          generalize mk x = b at *
          obtain ⟨lx, hlx⟩ : ∃ m, x.length = m := ⟨_, rfl⟩
          rw [hlx] at hzx hx hil hlt i1 k1 HM
          clear hlx
          go_wp2_with fail
          go_returns
          rw [HE.out]
          exact ⟨_, rfl, HV.out, hkv.out, HB.out⟩
end Go.Proofs.Ythgjfdjjnkgicaa
