/-
  The law 'however it is cut' (SplitCuts): its walk; no condition beyond those that each theorem states.
-/
import Derived.Test.YthgjfdjjnkgicaaAwake7
import Derived.Test.YthgjfdjjnkgicaaPlain7e
namespace Go.Proofs.Ythgjfdjjnkgicaa
open Go.RowKit Go.Rb
attribute [local irreducible] Go.wpQuiet

set_option maxRecDepth 20000 in
set_option maxHeartbeats 4000000 in
theorem cuts_big (m : Int) (A : Option Addr) (n c : Nat) (w : World) (h : ¬ n ≤ 30) : Calls Try.prog 6 #[.int .i64 m, .slice A n c] w fun e w' => e = .returned (.bool true) ∧ Below w.heap.size w w' := by
  have HA : Hid (∀ w, Calls Try.prog 7 #[] w fun e w' => e = .returned (.bool true) ∧ Below w.heap.size w w') := awake_any
  have i1 : (30 : Int) < (n : Int) := by omega
  clear h
  go_enter Try.func6, Try.ntmps6
  go_wp2_with (first
    | (go_at_call 7; refine (HA.out _).mono ?_; rintro e2 w2 ⟨rfl, hb2⟩; have HB2 := Lib.hid (below_trans HB1.out hb2); clear hb2)
    | (go_at_call 7; refine (HA.out _).mono ?_; rintro e1 w1 ⟨rfl, hb1⟩; have HB1 := Lib.hid hb1; clear hb1))
  go_ret
  exact ⟨rfl, HB2.out⟩
set_option maxRecDepth 20000 in
set_option maxHeartbeats 4000000 in
theorem cuts_bad (m : Int) (A : Option Addr) (n c : Nat) (w : World) (hn : n ≤ 30) (h : m < 1 ∨ 4096 < m) : Calls Try.prog 6 #[.int .i64 m, .slice A n c] w fun e w' => e = .returned (.bool true) ∧ Below w.heap.size w w' := by
  have HA : Hid (∀ w, Calls Try.prog 7 #[] w fun e w' => e = .returned (.bool true) ∧ Below w.heap.size w w') := awake_any
  have HX := Lib.hid (fun w => new_bad m w h)
  have i1 : ¬ (30 : Int) < (n : Int) := by omega
  have h4 : ¬ m < 1 → 4096 < m := by omega
  clear hn h
  by_cases h3 : m < 1
  case' neg => have h5 := h4 h3
  all_goals clear h4
  all_goals
    go_enter Try.func6, Try.ntmps6
    go_wp2_with (first
      | (go_at_call 7; refine (HA.out _).mono ?_; rintro e1 w1 ⟨rfl, hb1⟩; have HB1 := Lib.hid hb1; clear hb1)
      | (go_at_call 11; refine (HX.out _).mono ?_; rintro e2 w2 ⟨rfl, rfl⟩))
    go_ret
    exact ⟨rfl, HB1.out⟩
/-- Where the law has come to. -/
def CJ (n : Nat) (xs : List UInt8) (o : List Rc) (er : Int) (S : SS) : Prop := (er = 0 ∧ CI n xs o S) ∨ (er = 10 ∧ S.over = true ∧ S.held = [] ∧ o.length ≤ xs.length)
theorem part_len (n : Nat) (R : Res) : (part n R).1 = R.out := by unfold part; split; rfl; split <;> rfl
theorem rf_len (n : Nat) (xs : List UInt8) : (rf false n xs).1.length ≤ xs.length := by
  show (part n (recs n xs [] 0 0)).1.length ≤ _
  rw [part_len]
  exact (recs_bd n xs [] 0 0).2.1
set_option maxHeartbeats 1000000 in
theorem close_over {p : Nat} {s : SS} (w : World) (h : Rep w p s) (ho : s.over = true) :
    Calls Try.prog 14 #[pp p] w fun e w' => e = .returned (.tuple #[.slice none 0 0, .int .i64 0]) ∧ Only (fun k => k = p) w w' := by
  have c4 := h.c4
  rw [ho] at c4
  have HE := Lib.hid (end_any w h)
  clear h ho
  unfold pp at HE ⊢
  go_enter Try.func14, Try.ntmps14
  go_wp2_with (go_at_call 18; refine HE.out.mono ?_; rintro e2 w2 ⟨rfl, hw2⟩; have HW2 := Lib.hid hw2; clear hw2)
  go_ret2
  exact ⟨rfl, HW2.out.1⟩
set_option maxRecDepth 20000 in
set_option maxHeartbeats 8000000 in
theorem cuts_main (n : Nat) (ps : List ByteArray) (A : Option Addr) (np c : Nat) (w : World) (h1 : 1 ≤ n) (h2 : n ≤ 4096) (hn : np ≤ 30) (hr : Rd w w.heap.size 1 A np (ps.map Value.string)) : Calls Try.prog 6 #[.int .i64 (n : Int), .slice A np c] w fun e w' => e = .returned (.bool true) ∧ Below w.heap.size w w' := by
  have HA : Hid (∀ w, Calls Try.prog 7 #[] w fun e w' => e = .returned (.bool true) ∧ Below w.heap.size w w') := awake_any
  obtain ⟨i0, hi0, hz0, hz1, hz2⟩ := info_parts infoR
  have HN := Lib.hid (fun w => new_ok n w h1 h2)
  have HR := Lib.hid (fun en xs (hx : xs.length ≤ 6000) w => ref_any en n xs w h1 h2 (by omega))
  have HP := Lib.hid hr
  have hpl : ps.length = np := by simpa using hr.1
  have HPL := Lib.hid hpl
  have i1 : ¬ (30 : Int) < (np : Int) := by omega
  have i2 : ¬ (n : Int) < 1 := by omega
  have i3 : ¬ (4096 : Int) < (n : Int) := by omega
  have H2 := Lib.hid h2
  clear hr hpl h1
  unfold pp at HN
  go_enter Try.func6, Try.ntmps6
  go_wp2_with (first
    | (go_at_call 7; refine (HA.out _).mono ?_; rintro e1 w1 ⟨rfl, hb1⟩; have HB1 := Lib.hid hb1; clear hb1)
    | (go_at_call 11; refine (HN.out _).mono ?_; rintro e2 w2 ⟨rfl, hb2, hr2, -⟩; have HB2 := Lib.hid (below_trans HB1.out hb2); have HR2 := Lib.hid hr2; clear hb2 hr2))
  obtain ⟨p, hp⟩ : ∃ p, w1.heap.size = p := ⟨_, rfl⟩
  have hpw : w.heap.size ≤ p := by rw [← hp]; exact HB1.out.size
  rw [hp] at HR2 ⊢
  clear hp
  go_loopw [7, 8, 9, 10] (fun xv tv ev iv wr => ∃ (xs : List UInt8) (o : List Rc) (er : Int) (j : Nat) (S : SS), j ≤ np ∧ xs.length ≤ 200 * j ∧ xv = .string (mk xs) ∧ ev = .int .i64 er ∧ iv = .int .i64 j ∧ Hid (Own wr 32 3 tv o.length (rcs o)) ∧ Hid (∀ k, tv.ownBlock = some k → w.heap.size ≤ k) ∧ Hid (Below w.heap.size w wr) ∧ Hid (Rep wr p S) ∧ Hid (CJ n xs o er S)) (fun _ _ _ iv _ => np - (intOf iv).toNat)
  case atStart => exact ⟨[], [], 0, 0, _, by omega, by simp, rfl, rfl, rfl, Own.nil_ _ _ _, (show Hid _ from fun k hk => by simp [Value.ownBlock] at hk), HB2.out, HR2.out, .inl ⟨rfl, ci_new n⟩⟩
  case round =>
    obtain ⟨xs, o, er, j, S, hj, hxs, rfl, rfl, rfl, hown, hok, hbw, hrep, hcj⟩ := hrel
    obtain ⟨Av, cv, rfl, -, -⟩ := hown.out.len_
    have hzx := mk_size xs
    have hpl := hrep.out.lt
    by_cases hlt : j < np
    · obtain ⟨pb, po, rfl, hpb, hcell⟩ := HP.out.2 (by omega)
      have hc := hcell j (by omega)
      have hjl : j < ps.length := by rw [HPL.out]; exact hlt
      rw [List.getElem?_map, List.getElem?_eq_getElem hjl, Option.map_some] at hc
      generalize ps[j] = pj at *
      obtain ⟨y, rfl⟩ : ∃ y, pj = mk y := ⟨pj.data.toList, (mk_eta pj).symm⟩
      have hzp := mk_size y
      have HC := Lib.hid (fun W (hW : Below w.heap.size w W) => (hW.cell (p := ⟨pb, po + j, none⟩) hpb).trans hc)
      have xp := HC.out _ hbw.out
      have i4 : (j : Int) < (np : Int) := by omega
      have i5 : (0 : Int) ≤ (j : Int) := by omega
      have HCAT := Lib.hid (mk_append xs y)
      clear hcell hc hjl
      by_cases hyl : y.length ≤ 200
      · have i6 : ¬ (200 : Int) < (y.length : Int) := by omega
        rcases hcj.out with ⟨rfl, hci⟩ | ⟨rfl, hov, hhe, hol⟩
        · obtain ⟨q1, q2, q3, q4, q5⟩ := hci.step (p := y)
          obtain ⟨b1, b2, b3, b4, b5, b6⟩ := hci.bd
          have HW := Lib.hid (write_any y wr hrep.out b2 (by rw [b1]; exact H2.out) (by omega) (by omega) (by omega))
          have HRR := Lib.hid (HR.out false (xs ++ y) (by simp; omega))
          have hrl := rf_len n (xs ++ y)
          rw [← q1, ← q2, ← q3] at HRR
          rw [← q1] at hrl
          rw [← q3] at q4
          clear q1 q2 q3 b1 b2 b3 b4 b5 hci
          generalize wrE S y = E at *
          generalize wrOut S y = O1 at *
          generalize wrS S y = S1 at *
          have HCJ : Hid (CJ n (xs ++ y) (o ++ O1) E S1) := by
            rcases q5 with h | ⟨h1, h2, h3⟩
            · exact .inl h
            · exact .inr ⟨h1, h2, h3, hrl⟩
          have i7 : ¬ (n : Int) + 1 < (S1.held.length : Int) := by omega
          simp only [List.length_append] at hrl
          rw [List.length_append, rcs_append] at HRR
          obtain ⟨lo, hlo⟩ : ∃ k, o.length = k := ⟨_, rfl⟩
          obtain ⟨l1, hl1⟩ : ∃ k, O1.length = k := ⟨_, rfl⟩
          have HL := Lib.hid (And.intro hlo hl1)
          have HXL : Hid ((xs ++ y).length ≤ 200 * (j + 1)) := by show _ ≤ _; simp; omega
          have HELD := Lib.hid (fun W (h : Rep W p S1) => held_any W h)
          rw [hlo] at hown hok hrl b6 HRR ⊢
          rw [hl1] at HW hrl HRR
          generalize S1.held.length = hl at *
          rw [← mk_append] at HRR
          clear q5 hlo hl1
          generalize mk xs = bx at *
          generalize mk y = by' at *
          generalize xs.length = lx at *
          generalize y.length = ly at *
          unfold pp at HW HELD
          go_wp2_with (first
            | (go_at_call 12; refine HW.out.mono ?_; rintro e3 w3 ⟨v3, rfl, hown3, hk3, hw3⟩; obtain ⟨A3, c3, rfl, -, -⟩ := hown3.len_; have hb3 := hbw.out.trans (only_p hw3.1 hpw hpl); have xp3 := HC.out _ hb3; have HB3 := Lib.hid hb3; have HOV := Lib.hid (hown.out.only hw3.1 (fun k hk h => own_ne_blk hown.out hrep.out (by decide) (by rw [hk]; exact congrArg some h))); have HOW3 := Lib.hid hown3; have HR3 := Lib.hid hw3.2; clear hown3 hk3 hw3 hb3)
            | (at_builtin; go_loud (refine wpList_append_rd _ rfl (.tmp 95) (.tmp 96) _ rfl 32 i0 _ 3 32 Try.underlying23 hi0 hz0 hz1 hz2 rfl (by omega) (.slice Av lo cv) lo (rcs o) rfl (by exact HOV.out) _ A3 l1 c3 (rcs O1) rfl (by exact HOW3.out.rd) (rcs_one O1) (by simp only [maxLen]; omega) (by omega) _ rfl ?_; intro v4 w4 hown4 hgrow4 hat4; obtain ⟨A4, c4, rfl, -, -⟩ := hown4.len_; have HK4 : Hid (∀ k, (Value.slice A4 (lo + l1) c4).ownBlock = some k → w.heap.size ≤ k) := (fun k hk => by rcases hat4 with h | h; exact hok.out k (h.symm.trans hk); have h' := h.symm.trans hk; simp at h'; have := HB3.out.size; omega); have HB4 := Lib.hid (Below.grown HB3.out hgrow4 HB3.out.size (fun k hk => hok.out k hk)); have HR4 := Lib.hid (HR3.out.frame (Only.of_grown hgrow4) (own_ne_blk HOV.out HR3.out (by decide))); have HO4 := Lib.hid hown4; clear hown4 hgrow4 hat4))
            | (go_at_call 9; refine (HRR.out _).mono ?_; rintro e5 w5 ⟨v5, rfl, hown5, -, hb5⟩; obtain ⟨A5, c5, rfl, -, -⟩ := hown5.len_; have HO5 := Lib.hid hown5; have HO45 := Lib.hid (HO4.out.below hb5 (fun k hk => HO4.out.lt hk)); have HB5 := Lib.hid (HB4.out.trans (hb5.mono (by have := HB4.out.size; omega))); have HR5 := Lib.hid (HR4.out.below hb5); clear hown5 hb5)
            | (go_at_call 10; go_loud (refine (same_any _ _ _ _ _ _ _ (o ++ O1) _ (by rw [List.length_append, HL.out.1, HL.out.2]) (by rw [rcs_append]; exact HO45.out.rd) (by rw [rcs_append]; exact HO5.out.rd) (by omega)).mono ?_); rintro e6 w6 ⟨rfl, q6, rfl⟩)
            | (go_at_call 13; refine (HELD.out _ (HR5.out.below (below_drewN (Below.refl _ _) q6))).mono ?_; rintro e7 w7 ⟨rfl, rfl⟩))
          go_roundw
          case rel => exact ⟨xs ++ y, o ++ O1, E, j + 1, S1, by omega, HXL.out, by rw [← HCAT.out], rfl, by go_num, by rw [List.length_append, rcs_append, HL.out.1, HL.out.2]; exact HO45.out.drewN _, HK4.out, below_drewN HB5.out _, HR5.out.below (below_drewN (Below.refl _ _) q6), HCJ.out⟩
          case measure => simp [intOf]; omega
        · have HW := Lib.hid (write_over y wr hrep.out hov)
          have HELD := Lib.hid (held_any wr hrep.out)
          rw [hhe, List.length_nil] at HELD
          clear hov hhe
          generalize hbx : mk xs = bx at *
          have HBX := Lib.hid hbx
          clear hbx
          generalize mk y = by' at *
          generalize y.length = ly at *
          unfold pp at HW HELD
          go_wp2_with (first
            | (go_at_call 12; refine HW.out.mono ?_; rintro e3 w3 ⟨rfl, rfl⟩)
            | (go_at_call 13; refine HELD.out.mono ?_; rintro e7 w7 ⟨rfl, rfl⟩))
          go_roundw
          case rel => exact ⟨xs, o, 10, j + 1, S, by omega, by omega, by rw [HBX.out], rfl, by go_num, hown.out, hok.out, hbw.out, hrep.out, hcj.out⟩
          case measure => simp [intOf]; omega
      · have i6 : (200 : Int) < (y.length : Int) := by omega
        clear hcj HCAT
        generalize mk xs = bx at *
        generalize mk y = by' at *
        generalize y.length = ly at *
        go_wp2_with fail
        go_ret
        exact ⟨rfl, hbw.out⟩
    · obtain rfl : j = np := by omega
      rcases hcj.out with ⟨rfl, hci⟩ | ⟨rfl, hov, hhe, hol⟩
      · obtain ⟨q1, q2⟩ := hci.fin_
        obtain ⟨b1, b2, b3, b4, b5, b6⟩ := hci.bd
        have HCL := Lib.hid (close_any wr hrep.out (by rw [b1]; exact H2.out) (by omega) (by omega) (by omega))
        have hcl := cl_len S
        have HRR := Lib.hid (HR.out true xs (by omega))
        have e1 : (rf true n xs).1 = (al n xs).1 := rfl
        have e2 : (rf true n xs).2.1 = (al n xs).2 := rfl
        rw [e1, e2, q1, q2, List.length_append, rcs_append] at HRR
        have HWO := Lib.hid (fun W S' (h : Rep W p S') (ho : S'.over = true) => write_over [120, 10] W h ho)
        have HELD := Lib.hid (fun W S' (h : Rep W p S') => held_any W h)
        clear e1 e2 q1 q2 b1 b2 b3 b4 b5 hci hcj
        generalize clE S = E at *
        generalize clOut S = O1 at *
        obtain ⟨lo, hlo⟩ : ∃ k, o.length = k := ⟨_, rfl⟩
        obtain ⟨l1, hl1⟩ : ∃ k, O1.length = k := ⟨_, rfl⟩
        have HL := Lib.hid (And.intro hlo hl1)
        rw [hlo] at hown hok b6 HRR ⊢
        rw [hl1] at HCL hcl HRR
        clear hlo hl1
        generalize mk xs = bx at *
        generalize xs.length = lx at *
        unfold pp at HCL HELD HWO
        unfold mk at HWO
        go_wp2_with (first
          | (go_at_call 14; refine HCL.out.mono ?_; rintro e3 w3 ⟨v3, rfl, hown3, hk3, S3, hw3, ho3, hh3⟩; obtain ⟨A3, c3, rfl, -, -⟩ := hown3.len_; have HB3 := Lib.hid (hbw.out.trans (only_p hw3.1 hpw hpl)); have HOV := Lib.hid (hown.out.only hw3.1 (fun k hk h => own_ne_blk hown.out hrep.out (by decide) (by rw [hk]; exact congrArg some h))); have HOW3 := Lib.hid hown3; have HR3 := Lib.hid hw3.2; have HS3 := Lib.hid (And.intro ho3 hh3); clear hown3 hk3 hw3 ho3 hh3)
          | (at_builtin; go_loud (refine wpList_append_rd _ rfl (.tmp 132) (.tmp 133) _ rfl 32 i0 _ 3 32 Try.underlying23 hi0 hz0 hz1 hz2 rfl (by omega) (.slice Av lo cv) lo (rcs o) rfl (by exact HOV.out) _ A3 l1 c3 (rcs O1) rfl (by exact HOW3.out.rd) (rcs_one O1) (by simp only [maxLen]; omega) (by omega) _ rfl ?_; intro v4 w4 hown4 hgrow4 hat4; obtain ⟨A4, c4, rfl, -, -⟩ := hown4.len_; have HB4 := Lib.hid (Below.grown HB3.out hgrow4 HB3.out.size (fun k hk => hok.out k hk)); have HR4 := Lib.hid (HR3.out.frame (Only.of_grown hgrow4) (own_ne_blk HOV.out HR3.out (by decide))); have HO4 := Lib.hid hown4; clear hown4 hgrow4 hat4))
          | (go_at_call 9; refine (HRR.out _).mono ?_; rintro e5 w5 ⟨v5, rfl, hown5, -, hb5⟩; obtain ⟨A5, c5, rfl, -, -⟩ := hown5.len_; have HO5 := Lib.hid hown5; have HO45 := Lib.hid (HO4.out.below hb5 (fun k hk => HO4.out.lt hk)); have HB5 := Lib.hid (HB4.out.trans (hb5.mono (by have := HB4.out.size; omega))); have HR5 := Lib.hid (HR4.out.below hb5); clear hown5 hb5)
          | (go_at_call 12; refine (HWO.out _ S3 HR5.out HS3.out.1).mono ?_; rintro e8 w8 ⟨rfl, rfl⟩)
          | (go_at_call 10; go_loud (refine (same_any _ _ _ _ _ _ _ (o ++ O1) _ (by rw [List.length_append, HL.out.1, HL.out.2]) (by rw [rcs_append]; exact HO45.out.rd) (by rw [rcs_append]; exact HO5.out.rd) (by omega)).mono ?_); rintro e6 w6 ⟨rfl, q6, rfl⟩)
          | (go_at_call 13; refine (HELD.out _ S3 (HR5.out.below (below_drewN (Below.refl _ _) q6))).mono ?_; rw [HS3.out.2, List.length_nil]; rintro e7 w7 ⟨rfl, rfl⟩))
        go_ret
        exact ⟨by simp, below_drewN HB5.out _⟩
      · have HCL := Lib.hid (close_over wr hrep.out hov)
        clear hcj hhe hov
        obtain ⟨lo, hlo⟩ : ∃ k, o.length = k := ⟨_, rfl⟩
        rw [hlo] at hown hok hol ⊢
        clear hlo
        generalize mk xs = bx at *
        generalize xs.length = lx at *
        unfold pp at HCL
        go_wp2_with (first
          | (go_at_call 14; refine HCL.out.mono ?_; rintro e3 w3 ⟨rfl, hw3⟩; have HB3 := Lib.hid (hbw.out.trans (only_p hw3 hpw hpl)); have HOV := Lib.hid (hown.out.only hw3 (fun k hk h => own_ne_blk hown.out hrep.out (by decide) (by rw [hk]; exact congrArg some h))); clear hw3)
          | (at_builtin; go_loud (refine wpList_append_rd _ rfl (.tmp 132) (.tmp 133) _ rfl 32 i0 _ 3 32 Try.underlying23 hi0 hz0 hz1 hz2 rfl (by omega) (.slice Av lo cv) lo (rcs o) rfl (by exact HOV.out) _ none 0 0 [] rfl (by exact (Own.nil_ w3 32 3).rd) (by simp) (by simp only [maxLen]; omega) (by omega) _ rfl ?_; intro v4 w4 hown4 hgrow4 hat4; obtain ⟨A4, c4, rfl, -, -⟩ := hown4.len_; have HB4 := Lib.hid (Below.grown HB3.out hgrow4 HB3.out.size (fun k hk => hok.out k hk)); clear hown4 hgrow4 hat4)))
        go_ret
        exact ⟨rfl, HB4.out⟩
theorem cuts_any (m : Int) (ps : List ByteArray) (A : Option Addr) (np c : Nat) (w : World) (hr : Rd w w.heap.size 1 A np (ps.map Value.string)) : Calls Try.prog 6 #[.int .i64 m, .slice A np c] w fun e w' => e = .returned (.bool true) ∧ Below w.heap.size w w' := by
  by_cases h : np ≤ 30
  · by_cases hm : m < 1 ∨ 4096 < m
    · exact cuts_bad m A np c w h hm
    · obtain ⟨n, rfl⟩ := Int.eq_ofNat_of_zero_le (show 0 ≤ m by omega)
      exact cuts_main n ps A np c w (by omega) (by omega) h hr
  · exact cuts_big m A np c w h
end Go.Proofs.Ythgjfdjjnkgicaa
