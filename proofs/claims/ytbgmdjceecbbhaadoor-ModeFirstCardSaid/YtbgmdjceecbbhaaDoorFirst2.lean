/-
  The law ModeFirst returns true: its walk; no condition beyond those that each theorem states.
-/
import Derived.Test.YtbgmdjceecbbhaaDoorFirst1
namespace Go.Proofs.YtbgmdjceecbbhaaDoor
open Go.RowKit Go.Rb
attribute [local irreducible] Go.wpQuiet

set_option maxRecDepth 20000 in
set_option maxHeartbeats 1000000 in
theorem first_any (l : List Rw) (A : Option Addr) (n c : Nat) (w : World) (hT : Tb w) (hr : Rws w w.heap.size A n l) (hnc : n ≤ c) :
    Calls Tryd.prog 5 #[.slice A n c] w fun e w' => e = .returned (.bool true) ∧ Below w.heap.size w w' := by
  have HT := Lib.hid hT
  have HRW := Lib.hid hr
  have h0 := hT.lt
  have HAW := Lib.hid (fun W (h : Tb W) => awake_any W h)
  clear hT hr
  by_cases hbig : 30 < n
  · have F1 : decide (30 < (n : Int)) = true := decide_eq_true (by omega)
    clear hbig
    go_enter Tryd.func5, Tryd.ntmps5
    go_wp2_with fail
    refine (HAW.out w HT.out).mono ?_
    rintro e1 w1 ⟨rfl, hb1⟩
    have HB1 := Lib.hid hb1
    clear hb1
    go_wp2_with fail
    refine (HAW.out w1 (HT.out.below' HB1.out)).mono ?_
    rintro e2 w2 ⟨rfl, hb2⟩
    have HB2 := Lib.hid hb2
    clear hb2
    go_wp2_with fail
    go_ret
    exact ⟨rfl, below_trans HB1.out HB2.out⟩
  have F1 : decide (30 < (n : Int)) = false := decide_eq_false (by omega)
  go_enter Tryd.func5, Tryd.ntmps5
  go_wp2_with fail
  refine (HAW.out w HT.out).mono ?_
  rintro e1 w1 ⟨rfl, hb1⟩
  have HB1 := Lib.hid hb1
  clear hb1
  go_wp2_with fail
  refine (new_ok 1 0 0 (by decide) (by decide) (by decide) (by decide) (by decide) (by decide) w1).mono ?_
  rintro e2 w2 ⟨rfl, htr2, hb2, hsz2⟩
  have HTR2 := Lib.hid htr2
  have HB2 := Lib.hid hb2
  clear htr2 hb2
  unfold pp
  go_wp2_with fail
  refine (new_ok 2 0 0 (by decide) (by decide) (by decide) (by decide) (by decide) (by decide) w2).mono ?_
  rintro e3 w3 ⟨rfl, htr3, hb3, hsz3⟩
  have HTR3 := Lib.hid htr3
  have HTP := Lib.hid (HTR2.out.below hb3 (Nat.le_refl _))
  have HB3 := Lib.hid (below_trans (below_trans HB1.out HB2.out) hb3)
  have hp0 : w.heap.size ≤ w1.heap.size := HB1.out.size
  have hq0 : w.heap.size ≤ w2.heap.size := (below_trans HB1.out HB2.out).size
  clear htr3 hb3
  unfold pp
  obtain ⟨p, hp⟩ : ∃ p, w1.heap.size = p := ⟨_, rfl⟩
  obtain ⟨q, hq⟩ : ∃ q, w2.heap.size = q := ⟨_, rfl⟩
  rw [hp] at HTP hp0 ⊢
  rw [hq] at HTR3 hq0 ⊢
  have hpq : p < q := by omega
  have HPQ := Lib.hid hpq
  have HP0 := Lib.hid hp0
  have HQ0 := Lib.hid hq0
  clear HTR2 hp hq hp0 hq0 hpq hsz2 hsz3
  go_wp2_with fail
  obtain ⟨g0, hg0⟩ : ∃ v : Value, v = .slice none 0 0 := ⟨_, rfl⟩
  go_loopw [7, 8, 9, 10] (fun fv lv iv ov wr => ∃ (i : Nat) (f ln : Int) (st su : Ts), iv = .int .i64 i ∧ i ≤ n ∧ fv = .int .i64 f ∧ lv = .int .i64 ln ∧ Hid (PF i f ln st su) ∧ Hid (Tr wr p st (.slice none 0 0)) ∧ Hid (Tr wr q su (.slice none 0 0)) ∧ Hid (Below w.heap.size w wr)) (fun _ _ iv _ _ => n - (intOf iv).toNat)
  case atStart => exact ⟨0, -1, 0, _, _, rfl, by omega, rfl, rfl, .inl ⟨rfl, rfl, rfl, rfl⟩, HTP.out, HTR3.out, HB3.out⟩
  case round =>
    obtain ⟨i, f, ln, st, su, rfl, hi, rfl, rfl, hpf, htp, htq, hbw⟩ := hrel
    have hpl : p < wr.heap.size := htp.out.1.lt
    have hql : q < wr.heap.size := htq.out.1.lt
    have HTW := Lib.hid (HT.out.below' hbw.out)
    by_cases hlt : i < n
    · obtain ⟨pb, po, Ah, ch, rfl, hx⟩ := (HRW.out.below hbw.out (Nat.le_refl _)).2 i (by rw [HRW.out.1]; exact hlt)
      generalize l[i]'(by rw [HRW.out.1]; exact hlt) = x at *
      have x0 := hx.c0
      have x1 := hx.c1
      have x2 := hx.c2
      have x3 := hx.c3
      have hTX : (mk x.r.t).size = x.r.t.length := rfl
      have hpb := hx.lt
      have i1 : (i : Int) < (n : Int) := by omega
      have i2 : (0 : Int) ≤ (i : Int) := by omega
      have HX := Lib.hid hx
      by_cases hlong : 60 < x.r.t.length
      · have F2 : decide (60 < ((mk x.r.t).size : Int)) = true := decide_eq_true (by omega)
        clear hx hTX
        generalize mk x.r.t = TX at *
        go_wp2_with fail
        go_ret
        exact ⟨rfl, hbw.out⟩
      have F2 : decide (60 < ((mk x.r.t).size : Int)) = false := decide_eq_false (by omega)
      by_cases hmany : 10 < x.hs.length
      · have F3 : decide (10 < (x.hs.length : Int)) = true := decide_eq_true (by omega)
        clear hx hTX
        generalize mk x.r.t = TX at *
        go_wp2_with fail
        go_ret
        exact ⟨rfl, hbw.out⟩
      have F3 : decide (10 < (x.hs.length : Int)) = false := decide_eq_false (by omega)
      have hst := hpf.out.step (by omega) x (by omega)
      have hfit := hpf.out.fit (by omega)
      have HST := Lib.hid hst
      have HFIT := Lib.hid hfit
      have HXI : Hid (I64 x.r.n ∧ x.r.t.length ≤ 60) := ⟨hx.i64, by omega⟩
      have hrcv : rcv x.r = .agg #[.int .i64 x.r.n, .int .i64 x.r.a, .string (mk x.r.t)] := rfl
      have hx1000 : x.hs.length ≤ 1000 := by omega
      have HADD1 : Hid (∀ W, Tr W p st (.slice none 0 0) → Below w.heap.size wr W → Calls Tryd.prog 10 #[.pointer (some ⟨p, 0, none⟩), .agg #[.int .i64 x.r.n, .int .i64 x.r.a, .string (mk x.r.t)], .slice Ah x.hs.length ch] W fun e w' => ∃ v, e = .returned v ∧ Own w' 9 1 v (add st x.r x.hs).1.length (lns (add st x.r x.hs).1) ∧ Tr w' p (add st x.r x.hs).2 (.slice none 0 0) ∧ Only (fun k => k = p) W w') := fun W htp hb => by
        have := add_plain st x.r x.hs Ah x.hs.length ch p (.slice none 0 0) W htp (HTW.out.below hb h0) (by have := HP0.out; omega) HXI.out rfl ((HX.out.rd.below hb).more (Nat.le_trans hbw.out.size hb.size)) hx1000 (.inr (.inl HFIT.out.1.1)) HFIT.out.1.2.1 HFIT.out.1.2.2
        rw [hrcv] at this
        exact this.mono fun e w' ⟨v, h1, h2, _, h3, h4⟩ => ⟨v, h1, h2, h3, h4⟩
      have HADD2 : Hid (∀ W, Tr W q su (.slice none 0 0) → Below w.heap.size wr W → Calls Tryd.prog 10 #[.pointer (some ⟨q, 0, none⟩), .agg #[.int .i64 x.r.n, .int .i64 x.r.a, .string (mk x.r.t)], .slice Ah x.hs.length ch] W fun e w' => ∃ v, e = .returned v ∧ Own w' 9 1 v (add su x.r x.hs).1.length (lns (add su x.r x.hs).1) ∧ Tr w' q (add su x.r x.hs).2 (.slice none 0 0) ∧ Only (fun k => k = q) W w') := fun W htq hb => by
        have := add_plain su x.r x.hs Ah x.hs.length ch q (.slice none 0 0) W htq (HTW.out.below hb h0) (by have := HQ0.out; omega) HXI.out rfl ((HX.out.rd.below hb).more (Nat.le_trans hbw.out.size hb.size)) hx1000 (.inr (.inr HFIT.out.2.1.1)) HFIT.out.2.1.2.1 HFIT.out.2.1.2.2
        rw [hrcv] at this
        exact this.mono fun e w' ⟨v, h1, h2, _, h3, h4⟩ => ⟨v, h1, h2, h3, h4⟩
      have HXB : Hid (∀ W, Below w.heap.size wr W → W.cell? ⟨pb, po + i * 4, none⟩ = some (.int .i64 x.r.n) ∧ W.cell? ⟨pb, po + i * 4 + 1, none⟩ = some (.int .i64 x.r.a) ∧ W.cell? ⟨pb, po + i * 4 + 2, none⟩ = some (.string (mk x.r.t)) ∧ W.cell? ⟨pb, po + i * 4 + 3, none⟩ = some (.slice Ah x.hs.length ch)) := fun W hb =>
        let h := HX.out.below hb (Nat.le_refl _)
        ⟨h.c0, h.c1, h.c2, h.c3⟩
      clear hx hst hfit hrcv hlong hmany hTX
      obtain ⟨m, hm⟩ : ∃ m, x.hs.length = m := ⟨_, rfl⟩
      rw [hm] at x3 F3 HADD1 HADD2 HXB
      clear hm hx1000
      generalize mk x.r.t = TX at *
      generalize (add st x.r x.hs) = AT at *
      generalize (add su x.r x.hs) = AU at *
      obtain ⟨LT, ST⟩ := AT
      obtain ⟨LU, SU⟩ := AU
      simp only at HADD1 HADD2 HST
      obtain ⟨hlu, hen, hor⟩ := HST.out
      subst hlu
      have HEN := Lib.hid hen
      clear hen
      have HOR := Lib.hid hor
      clear hor
      go_wp2_with fail
      have hpw : pb < wr.drew.heap.size := by have := hbw.out.size; have : wr.drew.heap.size = wr.heap.size := rfl; omega
      refine region_tail 11 (by kernel_rfl) (by kernel_rfl) (fun W W' => Below W.heap.size W W')
        [.val (.pointer (some ⟨p, 0, none⟩)),
         .val (.slice (some ⟨pb, po, none⟩) n c),
         .val (.int .i64 (i : Int)),
         .val (.pointer (some ⟨pb, po + i * 4, none⟩)),
         .val (.pointer (some ⟨pb, po + i * 4, none⟩)),
         .val (.agg #[.int .i64 x.r.n, .int .i64 x.r.a, .string TX]),
         .val (.slice (some ⟨pb, po, none⟩) n c),
         .val (.int .i64 (i : Int)),
         .val (.pointer (some ⟨pb, po + i * 4, none⟩)),
         .val (.pointer (some ⟨pb, po + i * 4 + 3, none⟩)),
         .val (.slice Ah m ch)]
        (fun W => Below.refl _ W) (fun _ _ _ h k => below_trans h k) (by kernel_rfl) ?_ ?_
      · refine ⟨?_, ?_, ?_, ?_, ?_, ?_, ?_, ?_, ?_, ?_, ?_, trivial⟩
        · intro ra RW hR hk hd K hK
          obtain ⟨e3, g3⟩ := hk 3 (.pointer (some ⟨p, 0, none⟩)) (by kernel_rfl) rfl
          clear hk hd
          have HR := Lib.hid hR
          clear hR
          go_simp
          exact hK _ _ (Below.refl _ _) rfl
        · intro ra RW hR hk hd K hK
          obtain ⟨e0, g0⟩ := hk 0 (.slice (some ⟨pb, po, none⟩) n c) (by kernel_rfl) rfl
          clear hk hd
          have HR := Lib.hid hR
          clear hR
          go_simp
          exact hK _ _ (Below.refl _ _) rfl
        · intro ra RW hR hk hd K hK
          obtain ⟨e9, g9⟩ := hk 9 (.int .i64 (i : Int)) (by kernel_rfl) rfl
          clear hk hd
          have HR := Lib.hid hR
          clear hR
          go_simp
          exact hK _ _ (Below.refl _ _) rfl
        · intro ra RW hR hk hd K hK
          obtain ⟨v58, e58, g58, f58⟩ := hd 1 58 (by kernel_rfl) rfl
          have f58 : v58 = .slice (some ⟨pb, po, none⟩) n c := f58
          subst f58
          obtain ⟨v59, e59, g59, f59⟩ := hd 2 59 (by kernel_rfl) rfl
          have f59 : v59 = .int .i64 (i : Int) := f59
          subst f59
          clear hk hd
          have HR := Lib.hid hR
          clear hR
          go_simp
          exact hK _ _ (Below.refl _ _) rfl
        · intro ra RW hR hk hd K hK
          obtain ⟨v60, e60, g60, f60⟩ := hd 3 60 (by kernel_rfl) rfl
          have f60 : v60 = .pointer (some ⟨pb, po + i * 4, none⟩) := f60
          subst f60
          clear hk hd
          have HR := Lib.hid hR
          clear hR
          go_simp
          exact hK _ _ (Below.refl _ _) rfl
        · intro ra RW hR hk hd K hK
          obtain ⟨v61, e61, g61, f61⟩ := hd 4 61 (by kernel_rfl) rfl
          have f61 : v61 = .pointer (some ⟨pb, po + i * 4, none⟩) := f61
          subst f61
          clear hk hd
          have HR := Lib.hid hR
          clear hR
          have dd0 := (HR.out.cell (p := ⟨pb, po + i * 4, none⟩) hpw).trans x0
          have dd1 := (HR.out.cell (p := ⟨pb, po + i * 4 + 1, none⟩) hpw).trans x1
          have dd2 := (HR.out.cell (p := ⟨pb, po + i * 4 + 2, none⟩) hpw).trans x2
          go_simp
          exact hK _ _ (Below.refl _ _) rfl
        · intro ra RW hR hk hd K hK
          obtain ⟨e0, g0⟩ := hk 0 (.slice (some ⟨pb, po, none⟩) n c) (by kernel_rfl) rfl
          clear hk hd
          have HR := Lib.hid hR
          clear hR
          go_simp
          exact hK _ _ (Below.refl _ _) rfl
        · intro ra RW hR hk hd K hK
          obtain ⟨e9, g9⟩ := hk 9 (.int .i64 (i : Int)) (by kernel_rfl) rfl
          clear hk hd
          have HR := Lib.hid hR
          clear hR
          go_simp
          exact hK _ _ (Below.refl _ _) rfl
        · intro ra RW hR hk hd K hK
          obtain ⟨v63, e63, g63, f63⟩ := hd 6 63 (by kernel_rfl) rfl
          have f63 : v63 = .slice (some ⟨pb, po, none⟩) n c := f63
          subst f63
          obtain ⟨v64, e64, g64, f64⟩ := hd 7 64 (by kernel_rfl) rfl
          have f64 : v64 = .int .i64 (i : Int) := f64
          subst f64
          clear hk hd
          have HR := Lib.hid hR
          clear hR
          go_simp
          exact hK _ _ (Below.refl _ _) rfl
        · intro ra RW hR hk hd K hK
          obtain ⟨v65, e65, g65, f65⟩ := hd 8 65 (by kernel_rfl) rfl
          have f65 : v65 = .pointer (some ⟨pb, po + i * 4, none⟩) := f65
          subst f65
          clear hk hd
          have HR := Lib.hid hR
          clear hR
          go_simp
          exact hK _ _ (Below.refl _ _) rfl
        · intro ra RW hR hk hd K hK
          obtain ⟨v66, e66, g66, f66⟩ := hd 9 66 (by kernel_rfl) rfl
          have f66 : v66 = .pointer (some ⟨pb, po + i * 4 + 3, none⟩) := f66
          subst f66
          clear hk hd
          have HR := Lib.hid hR
          clear hR
          have dd0 := (HR.out.cell (p := ⟨pb, po + i * 4 + 3, none⟩) hpw).trans x3
          go_simp
          exact hK _ _ (Below.refl _ _) rfl
      intro vs RW hR hF
      have q0 : vs 0 = .pointer (some ⟨p, 0, none⟩) := hF 0 (by decide)
      have q1 : vs 1 = .slice (some ⟨pb, po, none⟩) n c := hF 1 (by decide)
      have q2 : vs 2 = .int .i64 (i : Int) := hF 2 (by decide)
      have q3 : vs 3 = .pointer (some ⟨pb, po + i * 4, none⟩) := hF 3 (by decide)
      have q4 : vs 4 = .pointer (some ⟨pb, po + i * 4, none⟩) := hF 4 (by decide)
      have q5 : vs 5 = .agg #[.int .i64 x.r.n, .int .i64 x.r.a, .string TX] := hF 5 (by decide)
      have q6 : vs 6 = .slice (some ⟨pb, po, none⟩) n c := hF 6 (by decide)
      have q7 : vs 7 = .int .i64 (i : Int) := hF 7 (by decide)
      have q8 : vs 8 = .pointer (some ⟨pb, po + i * 4, none⟩) := hF 8 (by decide)
      have q9 : vs 9 = .pointer (some ⟨pb, po + i * 4 + 3, none⟩) := hF 9 (by decide)
      have q10 : vs 10 = .slice Ah m ch := hF 10 (by decide)
      simp only [List.take_succ_cons, List.take_zero, List.drop_succ_cons, List.drop_zero, setAll, List.setIfInBounds_toArray, List.set_cons_zero, List.set_cons_succ, q0, q1, q2, q3, q4, q5, q6, q7, q8, q9, q10]
      clear hF q0 q1 q2 q3 q4 q5 q6 q7 q8 q9 q10
      clear vs

      have HBR : Hid (Below w.heap.size wr RW) := (below_drewN (Below.refl w.heap.size wr) 1).trans (hR.mono hbw.out.size)
      have HTP1 := Lib.hid (htp.out.drew.below hR (Nat.le_refl _))
      have HTQ1 := Lib.hid (htq.out.drew.below hR (Nat.le_refl _))
      go_wp2_with (go_at_call 10; go_loud (refine (HADD1.out RW HTP1.out HBR.out).mono ?_; rintro e4 w4 ⟨v4, rfl, hown4, htr4, hon4⟩; obtain ⟨A4, c4, rfl, -, -⟩ := hown4.len_; have HTR4 := Lib.hid htr4; have HON4 := Lib.hid hon4; clear hown4 htr4 hon4))
      have hb4 : Below w.heap.size wr w4 := HBR.out.trans (HON4.out.below (by have := HBR.out.size; have := hbw.out.size; omega) (fun k hk => by have := HP0.out; omega))
      have HB4 := Lib.hid hb4
      have HTQ4 := Lib.hid (HTQ1.out.only HON4.out (by have := HPQ.out; omega) (fun k hk => by simp [Value.ownBlock] at hk))
      obtain ⟨x0, x1, x2, x3⟩ := HXB.out w4 hb4
      have hpw : pb < w4.drew.heap.size := by have := hb4.size; have := hbw.out.size; have : w4.drew.heap.size = w4.heap.size := rfl; omega
      clear hR hb4
      refine region_tail 11 (by kernel_rfl) (by kernel_rfl) (fun W W' => Below W.heap.size W W')
        [.val (.pointer (some ⟨q, 0, none⟩)),
         .val (.slice (some ⟨pb, po, none⟩) n c),
         .val (.int .i64 (i : Int)),
         .val (.pointer (some ⟨pb, po + i * 4, none⟩)),
         .val (.pointer (some ⟨pb, po + i * 4, none⟩)),
         .val (.agg #[.int .i64 x.r.n, .int .i64 x.r.a, .string TX]),
         .val (.slice (some ⟨pb, po, none⟩) n c),
         .val (.int .i64 (i : Int)),
         .val (.pointer (some ⟨pb, po + i * 4, none⟩)),
         .val (.pointer (some ⟨pb, po + i * 4 + 3, none⟩)),
         .val (.slice Ah m ch)]
        (fun W => Below.refl _ W) (fun _ _ _ h k => below_trans h k) (by kernel_rfl) ?_ ?_
      · refine ⟨?_, ?_, ?_, ?_, ?_, ?_, ?_, ?_, ?_, ?_, ?_, trivial⟩
        · intro ra RW hR hk hd K hK
          obtain ⟨e5, g5⟩ := hk 5 (.pointer (some ⟨q, 0, none⟩)) (by kernel_rfl) rfl
          clear hk hd
          have HR := Lib.hid hR
          clear hR
          go_simp
          exact hK _ _ (Below.refl _ _) rfl
        · intro ra RW hR hk hd K hK
          obtain ⟨e0, g0⟩ := hk 0 (.slice (some ⟨pb, po, none⟩) n c) (by kernel_rfl) rfl
          clear hk hd
          have HR := Lib.hid hR
          clear hR
          go_simp
          exact hK _ _ (Below.refl _ _) rfl
        · intro ra RW hR hk hd K hK
          obtain ⟨e9, g9⟩ := hk 9 (.int .i64 (i : Int)) (by kernel_rfl) rfl
          clear hk hd
          have HR := Lib.hid hR
          clear hR
          go_simp
          exact hK _ _ (Below.refl _ _) rfl
        · intro ra RW hR hk hd K hK
          obtain ⟨v70, e70, g70, f70⟩ := hd 1 70 (by kernel_rfl) rfl
          have f70 : v70 = .slice (some ⟨pb, po, none⟩) n c := f70
          subst f70
          obtain ⟨v71, e71, g71, f71⟩ := hd 2 71 (by kernel_rfl) rfl
          have f71 : v71 = .int .i64 (i : Int) := f71
          subst f71
          clear hk hd
          have HR := Lib.hid hR
          clear hR
          go_simp
          exact hK _ _ (Below.refl _ _) rfl
        · intro ra RW hR hk hd K hK
          obtain ⟨v72, e72, g72, f72⟩ := hd 3 72 (by kernel_rfl) rfl
          have f72 : v72 = .pointer (some ⟨pb, po + i * 4, none⟩) := f72
          subst f72
          clear hk hd
          have HR := Lib.hid hR
          clear hR
          go_simp
          exact hK _ _ (Below.refl _ _) rfl
        · intro ra RW hR hk hd K hK
          obtain ⟨v73, e73, g73, f73⟩ := hd 4 73 (by kernel_rfl) rfl
          have f73 : v73 = .pointer (some ⟨pb, po + i * 4, none⟩) := f73
          subst f73
          clear hk hd
          have HR := Lib.hid hR
          clear hR
          have dd0 := (HR.out.cell (p := ⟨pb, po + i * 4, none⟩) hpw).trans x0
          have dd1 := (HR.out.cell (p := ⟨pb, po + i * 4 + 1, none⟩) hpw).trans x1
          have dd2 := (HR.out.cell (p := ⟨pb, po + i * 4 + 2, none⟩) hpw).trans x2
          go_simp
          exact hK _ _ (Below.refl _ _) rfl
        · intro ra RW hR hk hd K hK
          obtain ⟨e0, g0⟩ := hk 0 (.slice (some ⟨pb, po, none⟩) n c) (by kernel_rfl) rfl
          clear hk hd
          have HR := Lib.hid hR
          clear hR
          go_simp
          exact hK _ _ (Below.refl _ _) rfl
        · intro ra RW hR hk hd K hK
          obtain ⟨e9, g9⟩ := hk 9 (.int .i64 (i : Int)) (by kernel_rfl) rfl
          clear hk hd
          have HR := Lib.hid hR
          clear hR
          go_simp
          exact hK _ _ (Below.refl _ _) rfl
        · intro ra RW hR hk hd K hK
          obtain ⟨v75, e75, g75, f75⟩ := hd 6 75 (by kernel_rfl) rfl
          have f75 : v75 = .slice (some ⟨pb, po, none⟩) n c := f75
          subst f75
          obtain ⟨v76, e76, g76, f76⟩ := hd 7 76 (by kernel_rfl) rfl
          have f76 : v76 = .int .i64 (i : Int) := f76
          subst f76
          clear hk hd
          have HR := Lib.hid hR
          clear hR
          go_simp
          exact hK _ _ (Below.refl _ _) rfl
        · intro ra RW hR hk hd K hK
          obtain ⟨v77, e77, g77, f77⟩ := hd 8 77 (by kernel_rfl) rfl
          have f77 : v77 = .pointer (some ⟨pb, po + i * 4, none⟩) := f77
          subst f77
          clear hk hd
          have HR := Lib.hid hR
          clear hR
          go_simp
          exact hK _ _ (Below.refl _ _) rfl
        · intro ra RW hR hk hd K hK
          obtain ⟨v78, e78, g78, f78⟩ := hd 9 78 (by kernel_rfl) rfl
          have f78 : v78 = .pointer (some ⟨pb, po + i * 4 + 3, none⟩) := f78
          subst f78
          clear hk hd
          have HR := Lib.hid hR
          clear hR
          have dd0 := (HR.out.cell (p := ⟨pb, po + i * 4 + 3, none⟩) hpw).trans x3
          go_simp
          exact hK _ _ (Below.refl _ _) rfl
      intro vs RW hR hF
      have q0 : vs 0 = .pointer (some ⟨q, 0, none⟩) := hF 0 (by decide)
      have q1 : vs 1 = .slice (some ⟨pb, po, none⟩) n c := hF 1 (by decide)
      have q2 : vs 2 = .int .i64 (i : Int) := hF 2 (by decide)
      have q3 : vs 3 = .pointer (some ⟨pb, po + i * 4, none⟩) := hF 3 (by decide)
      have q4 : vs 4 = .pointer (some ⟨pb, po + i * 4, none⟩) := hF 4 (by decide)
      have q5 : vs 5 = .agg #[.int .i64 x.r.n, .int .i64 x.r.a, .string TX] := hF 5 (by decide)
      have q6 : vs 6 = .slice (some ⟨pb, po, none⟩) n c := hF 6 (by decide)
      have q7 : vs 7 = .int .i64 (i : Int) := hF 7 (by decide)
      have q8 : vs 8 = .pointer (some ⟨pb, po + i * 4, none⟩) := hF 8 (by decide)
      have q9 : vs 9 = .pointer (some ⟨pb, po + i * 4 + 3, none⟩) := hF 9 (by decide)
      have q10 : vs 10 = .slice Ah m ch := hF 10 (by decide)
      simp only [List.take_succ_cons, List.take_zero, List.drop_succ_cons, List.drop_zero, setAll, List.setIfInBounds_toArray, List.set_cons_zero, List.set_cons_succ, q0, q1, q2, q3, q4, q5, q6, q7, q8, q9, q10]
      clear hF q0 q1 q2 q3 q4 q5 q6 q7 q8 q9 q10
      clear vs

      have HBR5 : Hid (Below w.heap.size wr RW) := HB4.out.trans ((below_drewN (Below.refl w.heap.size w4) 1).trans (hR.mono (by have := HB4.out.size; have := hbw.out.size; show w.heap.size ≤ w4.heap.size; omega)))
      have HTP5 := Lib.hid (HTR4.out.drew.below hR (Nat.le_refl _))
      have HTQ5 := Lib.hid (HTQ4.out.drew.below hR (Nat.le_refl _))
      clear hR
      go_wp2_with (go_at_call 10; go_loud (refine (HADD2.out RW HTQ5.out HBR5.out).mono ?_; rintro e5 w5 ⟨v5, rfl, hown5, htr5, hon5⟩; obtain ⟨A5, c5, rfl, -, -⟩ := hown5.len_; have HTR5 := Lib.hid htr5; have HON5 := Lib.hid hon5; clear hown5 htr5 hon5))
      refine (enough_any w5 q SU _ HTR5.out).mono ?_
      rintro e6 w6 ⟨rfl, rfl⟩
      rw [HEN.out]
      have hb6 : Below w.heap.size wr w6 := HBR5.out.trans (HON5.out.below (by have := HBR5.out.size; have := hbw.out.size; omega) (fun k hk => by have := HQ0.out; omega))
      have HB6 := Lib.hid (hbw.out.trans hb6)
      have HTP6 := Lib.hid (HTP5.out.only HON5.out (by have := HPQ.out; omega) (fun k hk => by simp [Value.ownBlock] at hk))
      clear hb6
      rcases HOR.out with ⟨hlt0, hpf2⟩ | ⟨hlt1, hpf2⟩
      · have HPF2 := Lib.hid hpf2
        rw [hlt0]
        obtain ⟨hl0, hl1⟩ := HFIT.out.2.2.2
        clear hpf2 hlt0
        go_wp2_with fail
        go_roundw
        case rel => exact ⟨i + 1, f, ln, ST, SU, by go_num, by omega, rfl, by go_num, HPF2.out, HTP6.out, HTR5.out, HB6.out⟩
        case measure => simp [intOf]; omega
      · have HPF2 := Lib.hid hpf2
        rw [hlt1]
        obtain ⟨hl0, hl1⟩ := HFIT.out.2.2.2
        clear hpf2 hlt1
        go_wp2_with fail
        go_roundw
        case rel => exact ⟨i + 1, i, ln + 1, ST, SU, by go_num, by omega, rfl, by go_num, HPF2.out, HTP6.out, HTR5.out, HB6.out⟩
        case measure => simp [intOf]; omega
    · obtain rfl : i = n := by omega
      have hend := hpf.out.end_
      have hfit := hpf.out.fit (by omega)
      have HFIT := Lib.hid hfit
      have HE := Lib.hid (end_any su q _ wr htq.out HTW.out (by have := HQ0.out; omega) (by have := HFIT.out.2.1.2.1; unfold I64; omega) (by have := HFIT.out.2.1.2.2; unfold I64; omega))
      have HEP := Lib.hid (fun W (h : Tr W p st (.slice none 0 0)) (hT : Tb W) => end_any st p _ W h hT (by have := HP0.out; omega) (by have := HFIT.out.1.2.1; unfold I64; omega) (by have := HFIT.out.1.2.2; unfold I64; omega))
      clear hfit
      rcases hend with ⟨rfl, rfl, hne, hes, heu⟩ | ⟨hf0, rfl, hne, hes, x, heu, hxn⟩
      · rw [heu] at HE
        rw [hes] at HEP
        have HNE := Lib.hid hne
        clear hes heu hne
        go_wp2_with (go_at_call 13; go_loud (refine HE.out.mono ?_; rintro e4 w4 ⟨v4, rfl, hown4, hk4, htr4, hon4⟩; obtain ⟨A4, c4, rfl, -, -⟩ := hown4.len_; have HOWN4 := Lib.hid hown4; have HTR4 := Lib.hid htr4; have HON4 := Lib.hid hon4; have HK4 := Lib.hid hk4; clear hown4 htr4 hon4 hk4))
        have HTP4 := Lib.hid (htp.out.only HON4.out (by have := HPQ.out; omega) (fun k hk => by simp [Value.ownBlock] at hk))
        have HB4 := Lib.hid (hbw.out.trans (HON4.out.below hbw.out.size (fun k hk => by have := HQ0.out; omega)))
        refine (enough_any w4 p st _ HTP4.out).mono ?_
        rintro e5 w5 ⟨rfl, rfl⟩
        rw [HNE.out]
        go_wp2_with (go_at_call 13; go_loud (refine (HEP.out w5 HTP4.out (HT.out.below' HB4.out)).mono ?_; rintro e6 w6 ⟨v6, rfl, hown6, hk6, htr6, hon6⟩; obtain ⟨A6, c6, rfl, -, -⟩ := hown6.len_; have HON6 := Lib.hid hon6; have HOWN6 := Lib.hid (HOWN4.out.only hon6 (fun k hk => by have := HK4.out k hk; have := htp.out.1.lt; omega)); clear hown6 htr6 hon6 hk6))
        have hlit := Own.lit w6 9 1 1 #[.string ⟨#[48, 32, 48]⟩] rfl (by decide)
        have hx6 := HOWN6.out.below (below_al (Below.refl _ w6) (.cells #[.string ⟨#[48, 32, 48]⟩] 9)) (fun k hk => HOWN6.out.lt hk)
        have HCL := Lib.hid (texts_same A4 _ 1 c4 1 [mk [48, 32, 48]] _ _ _ hx6.rd hlit.rd (by decide))
        have HBF := Lib.hid (below_al (Below.refl _ w6) (.cells #[.string ⟨#[48, 32, 48]⟩] 9))
        clear hlit hx6
        refine HCL.out.mono ?_
        rintro e7 w7 ⟨rfl, q7, rfl⟩
        go_wp2_with fail
        go_ret
        have hb6 := HB4.out.trans (HON6.out.below HB4.out.size (fun k hk => by have := HP0.out; omega))
        exact ⟨rfl, hb6.trans ((HBF.out.mono hb6.size).trans (below_drewN (Below.refl _ _) q7))⟩
      · rw [heu, show [x].length = 1 from rfl] at HE
        rw [hes] at HEP
        have HNE := Lib.hid hne
        have F9 : decide (f < 0) = false := decide_eq_false (by omega)
        have HXN := Lib.hid hxn
        clear hes heu hne hxn hf0
        have hmk : ∀ (W : World) (g o : Nat), W.cell? ⟨g, o + 0, none⟩ = (lns [x])[0]? → W.cell? ⟨g, o, none⟩ = some (.string (mk x)) := fun _ _ _ h => h
        have HMK := Lib.hid hmk
        clear hmk
        have HBQ : Hid (((mk x).toList == [48, 32, 48]) = false) := by
          show _ = _
          unfold mk
          rw [ByteArray.toList_mk, beq_eq_false_iff_ne]
          exact HXN.out
        generalize mk x = MX at HMK HBQ
        go_wp2_with (go_at_call 13; go_loud (refine HE.out.mono ?_; rintro e4 w4 ⟨v4, rfl, hown4, hk4, htr4, hon4⟩; obtain ⟨g4, o4, c4, rfl, -, -, hg4, hcell4, -⟩ := hown4.form (Nat.zero_lt_one); have HY4 := Lib.hid (HMK.out _ _ _ (hcell4 0 (Nat.zero_lt_one))); have HK4 := Lib.hid (hk4 g4 rfl); have HTR4 := Lib.hid htr4; have HON4 := Lib.hid hon4; clear hown4 htr4 hon4 hk4 hcell4))
        have HTP4 := Lib.hid (htp.out.only HON4.out (by have := HPQ.out; omega) (fun k hk => by simp [Value.ownBlock] at hk))
        have HB4 := Lib.hid (hbw.out.trans (HON4.out.below hbw.out.size (fun k hk => by have := HQ0.out; omega)))
        refine (enough_any w4 p st _ HTP4.out).mono ?_
        rintro e5 w5 ⟨rfl, rfl⟩
        rw [HNE.out]
        have ix6 : ∀ W, (Instr.indexAt 34 (.slice (some ⟨g4, o4, none⟩) 1 c4) (.int .i64 0)).run Tryd.prog W = .ok (.pointer (some ⟨g4, o4, none⟩)) W := fun W => by
          rw [run_indexAt_slice (h := Tryd.underlying34)]
          kernel_rfl
        go_wp2_with (go_at_call 13; go_loud (refine (HEP.out w5 HTP4.out (HT.out.below' HB4.out)).mono ?_; rintro e6 w6 ⟨v6, rfl, hown6, hk6, htr6, hon6⟩; obtain ⟨A6, c6, rfl, -, -⟩ := hown6.len_; have HON6 := Lib.hid hon6; have y0 := (hon6.cell (p := ⟨g4, o4, none⟩) hg4 (by have := HK4.out; have := htp.out.1.lt; show ¬ g4 = p; omega)).trans HY4.out; clear hown6 htr6 hon6 hk6))
        go_ret
        have hb6 := HB4.out.trans (HON6.out.below HB4.out.size (fun k hk => by have := HP0.out; omega))
        exact ⟨by show Ending.returned (Value.bool (!(MX.toList == [48, 32, 48]))) = _; rw [HBQ.out]; rfl, hb6⟩
end Go.Proofs.YtbgmdjceecbbhaaDoor
