/-
  The law ModeCounts returns true: its walk; no condition beyond those that each theorem states.
-/
import Derived.Test.YtbgmdjceecbbhaaDoorFirst1
namespace Go.Proofs.YtbgmdjceecbbhaaDoor
open Go.RowKit Go.Rb
attribute [local irreducible] Go.wpQuiet

/-- The counting teller. -/
def cnt (r h : Nat) : Ts := { new_ 2 0 0 with records := r, hits := h }
theorem add_cnt (r h : Nat) (x : Rw) : add (cnt r h) x.r x.hs = ([], cnt (r + (if 0 < x.g.length then 1 else 0)) (h + x.g.length)) := by
  unfold Rw.g
  by_cases h0 : (x.hs.filter (good x.r.t.length)).length = 0
  · simp [add, cnt, new_, h0]
  · have h1 : 0 < (x.hs.filter (good x.r.t.length)).length := by omega
    rw [if_pos h1]
    simp [add, cnt, new_, h0]
theorem add_0 (x : Rw) : add (new_ 0 0 0) x.r x.hs = (x.g.map (hline x.r), new_ 0 0 0) := by simp [add, new_, Rw.g]
theorem endL_cnt (r h : Nat) : endL (cnt r h) = [Lib.itoa r ++ [32] ++ Lib.itoa h] := by simp [endL, cnt, new_, cline]
theorem endL_0 : endL (new_ 0 0 0) = [] := by simp [endL, new_]

set_option maxRecDepth 20000 in
set_option maxHeartbeats 1000000 in
theorem counts_any (l : List Rw) (A : Option Addr) (n c : Nat) (w : World) (hT : Tb w) (hr : Rws w w.heap.size A n l) (hnc : n ≤ c) :
    Calls Tryd.prog 4 #[.slice A n c] w fun e w' => e = .returned (.bool true) ∧ Below w.heap.size w w' := by
  have HT := Lib.hid hT
  have HRW := Lib.hid hr
  have h0 := hT.lt
  have HAW := Lib.hid (fun W (h : Tb W) => awake_any W h)
  clear hT hr
  by_cases hbig : 30 < n
  · have F1 : decide (30 < (n : Int)) = true := decide_eq_true (by omega)
    clear hbig
    go_enter Tryd.func4, Tryd.ntmps4
    go_wp2_with fail
    refine (HAW.out w HT.out).mono ?_
    rintro e1 w1 ⟨rfl, hb1⟩
    have HB1 := Lib.hid hb1
    clear hb1
    go_wp2_with fail
    refine (HAW.out w1 (HT.out.below' HB1.out)).mono ?_
    rintro e2 w2 ⟨rfl, hb2⟩
    have HB2 := Lib.hid hb2
    clear hb2
    go_wp2_with fail
    go_ret
    exact ⟨rfl, below_trans HB1.out HB2.out⟩
  have F1 : decide (30 < (n : Int)) = false := decide_eq_false (by omega)
  go_enter Tryd.func4, Tryd.ntmps4
  go_wp2_with fail
  refine (HAW.out w HT.out).mono ?_
  rintro e1 w1 ⟨rfl, hb1⟩
  have HB1 := Lib.hid hb1
  clear hb1
  go_wp2_with fail
  refine (new_ok 0 0 0 (by decide) (by decide) (by decide) (by decide) (by decide) (by decide) w1).mono ?_
  rintro e2 w2 ⟨rfl, htr2, hb2, hsz2⟩
  have HTR2 := Lib.hid htr2
  have HB2 := Lib.hid hb2
  clear htr2 hb2
  unfold pp
  go_wp2_with fail
  refine (new_ok 2 0 0 (by decide) (by decide) (by decide) (by decide) (by decide) (by decide) w2).mono ?_
  rintro e3 w3 ⟨rfl, htr3, hb3, hsz3⟩
  have HTR3 := Lib.hid htr3
  have HTP := Lib.hid (HTR2.out.below hb3 (Nat.le_refl _))
  have HB3 := Lib.hid (below_trans (below_trans HB1.out HB2.out) hb3)
  have hp0 : w.heap.size ≤ w1.heap.size := HB1.out.size
  have hq0 : w.heap.size ≤ w2.heap.size := (below_trans HB1.out HB2.out).size
  clear htr3 hb3
  unfold pp
  obtain ⟨p, hp⟩ : ∃ p, w1.heap.size = p := ⟨_, rfl⟩
  obtain ⟨q, hq⟩ : ∃ q, w2.heap.size = q := ⟨_, rfl⟩
  rw [hp] at HTP hp0 ⊢
  rw [hq] at HTR3 hq0 ⊢
  have hpq : p < q := by omega
  have HPQ := Lib.hid hpq
  have HP0 := Lib.hid hp0
  have HQ0 := Lib.hid hq0
  clear HTR2 hp hq hp0 hq0 hpq hsz2 hsz3
  go_wp2_with fail
  go_loopw [7, 8, 9, 10] (fun rv lv iv ov wr => ∃ (i r h : Nat), iv = .int .i64 i ∧ i ≤ n ∧ rv = .int .i64 r ∧ lv = .int .i64 h ∧ r ≤ i ∧ h ≤ 10 * i ∧ Hid (Tr wr p (new_ 0 0 0) (.slice none 0 0)) ∧ Hid (Tr wr q (cnt r h) (.slice none 0 0)) ∧ Hid (Below w.heap.size w wr)) (fun _ _ iv _ _ => n - (intOf iv).toNat)
  case atStart => exact ⟨0, 0, 0, rfl, by omega, rfl, rfl, by omega, by omega, HTP.out, HTR3.out, HB3.out⟩
  case round =>
    obtain ⟨i, r, h, rfl, hi, rfl, rfl, hri, hhi, htp, htq, hbw⟩ := hrel
    have hpl : p < wr.heap.size := htp.out.1.lt
    have hql : q < wr.heap.size := htq.out.1.lt
    have HTW := Lib.hid (HT.out.below' hbw.out)
    by_cases hlt : i < n
    · obtain ⟨pb, po, Ah, ch, rfl, hx⟩ := (HRW.out.below hbw.out (Nat.le_refl _)).2 i (by rw [HRW.out.1]; exact hlt)
      generalize l[i]'(by rw [HRW.out.1]; exact hlt) = x at *
      have x0 := hx.c0
      have x1 := hx.c1
      have x2 := hx.c2
      have x3 := hx.c3
      have hTX : (mk x.r.t).size = x.r.t.length := rfl
      have hpb := hx.lt
      have i1 : (i : Int) < (n : Int) := by omega
      have i2 : (0 : Int) ≤ (i : Int) := by omega
      have HX := Lib.hid hx
      by_cases hlong : 60 < x.r.t.length
      · have F2 : decide (60 < ((mk x.r.t).size : Int)) = true := decide_eq_true (by omega)
        clear hx hTX
        generalize mk x.r.t = TX at *
        go_wp2_with fail
        go_ret
        exact ⟨rfl, hbw.out⟩
      have F2 : decide (60 < ((mk x.r.t).size : Int)) = false := decide_eq_false (by omega)
      by_cases hmany : 10 < x.hs.length
      · have F3 : decide (10 < (x.hs.length : Int)) = true := decide_eq_true (by omega)
        clear hx hTX
        generalize mk x.r.t = TX at *
        go_wp2_with fail
        go_ret
        exact ⟨rfl, hbw.out⟩
      have F3 : decide (10 < (x.hs.length : Int)) = false := decide_eq_false (by omega)
      have HXI : Hid (I64 x.r.n ∧ x.r.t.length ≤ 60) := ⟨hx.i64, by omega⟩
      have hrcv : rcv x.r = .agg #[.int .i64 x.r.n, .int .i64 x.r.a, .string (mk x.r.t)] := rfl
      have hx1000 : x.hs.length ≤ 1000 := by omega
      have HADD1 : Hid (∀ W, Tr W p (new_ 0 0 0) (.slice none 0 0) → Below w.heap.size wr W → Calls Tryd.prog 10 #[.pointer (some ⟨p, 0, none⟩), .agg #[.int .i64 x.r.n, .int .i64 x.r.a, .string (mk x.r.t)], .slice Ah x.hs.length ch] W fun e w' => ∃ v, e = .returned v ∧ Own w' 9 1 v (add (new_ 0 0 0) x.r x.hs).1.length (lns (add (new_ 0 0 0) x.r x.hs).1) ∧ Tr w' p (add (new_ 0 0 0) x.r x.hs).2 (.slice none 0 0) ∧ Only (fun k => k = p) W w') := fun W htp hb => by
        have := add_plain (new_ 0 0 0) x.r x.hs Ah x.hs.length ch p (.slice none 0 0) W htp (HTW.out.below hb h0) (by have := HP0.out; omega) HXI.out rfl ((HX.out.rd.below hb).more (Nat.le_trans hbw.out.size hb.size)) hx1000 (.inl rfl) (by simp [new_]) (by simp [new_])
        rw [hrcv] at this
        exact this.mono fun e w' ⟨v, h1, h2, _, h3, h4⟩ => ⟨v, h1, h2, h3, h4⟩
      have HADD2 : Hid (∀ W, Tr W q (cnt r h) (.slice none 0 0) → Below w.heap.size wr W → Calls Tryd.prog 10 #[.pointer (some ⟨q, 0, none⟩), .agg #[.int .i64 x.r.n, .int .i64 x.r.a, .string (mk x.r.t)], .slice Ah x.hs.length ch] W fun e w' => ∃ v, e = .returned v ∧ Own w' 9 1 v (add (cnt r h) x.r x.hs).1.length (lns (add (cnt r h) x.r x.hs).1) ∧ Tr w' q (add (cnt r h) x.r x.hs).2 (.slice none 0 0) ∧ Only (fun k => k = q) W w') := fun W htq hb => by
        have := add_plain (cnt r h) x.r x.hs Ah x.hs.length ch q (.slice none 0 0) W htq (HTW.out.below hb h0) (by have := HQ0.out; omega) HXI.out rfl ((HX.out.rd.below hb).more (Nat.le_trans hbw.out.size hb.size)) hx1000 (.inr (.inr rfl)) (by simp [cnt]; omega) (by simp [cnt]; omega)
        rw [hrcv] at this
        exact this.mono fun e w' ⟨v, h1, h2, _, h3, h4⟩ => ⟨v, h1, h2, h3, h4⟩
      have HXB : Hid (∀ W, Below w.heap.size wr W → W.cell? ⟨pb, po + i * 4, none⟩ = some (.int .i64 x.r.n) ∧ W.cell? ⟨pb, po + i * 4 + 1, none⟩ = some (.int .i64 x.r.a) ∧ W.cell? ⟨pb, po + i * 4 + 2, none⟩ = some (.string (mk x.r.t)) ∧ W.cell? ⟨pb, po + i * 4 + 3, none⟩ = some (.slice Ah x.hs.length ch)) := fun W hb =>
        let h := HX.out.below hb (Nat.le_refl _)
        ⟨h.c0, h.c1, h.c2, h.c3⟩
      have hk := filter_le x
      have hlen : ((x.g.map (hline x.r)).length) = x.g.length := List.length_map ..
      simp only [add_0, add_cnt, hlen] at HADD1 HADD2
      obtain ⟨k, hk'⟩ : ∃ k, x.g.length = k := ⟨_, rfl⟩
      simp only [hk'] at HADD1 HADD2 hk
      have hk10 : k ≤ 10 := by omega
      clear hx hrcv hlong hmany hTX hlen hk hk'
      obtain ⟨m, hm⟩ : ∃ m, x.hs.length = m := ⟨_, rfl⟩
      rw [hm] at x3 F3 HADD1 HADD2 HXB
      clear hm hx1000
      generalize mk x.r.t = TX at *
      go_wp2_with fail
      have hpw : pb < wr.drew.heap.size := by have := hbw.out.size; have : wr.drew.heap.size = wr.heap.size := rfl; omega
      refine region_tail 11 (by kernel_rfl) (by kernel_rfl) (fun W W' => Below W.heap.size W W')
        [.val (.pointer (some ⟨p, 0, none⟩)),
         .val (.slice (some ⟨pb, po, none⟩) n c),
         .val (.int .i64 (i : Int)),
         .val (.pointer (some ⟨pb, po + i * 4, none⟩)),
         .val (.pointer (some ⟨pb, po + i * 4, none⟩)),
         .val (.agg #[.int .i64 x.r.n, .int .i64 x.r.a, .string TX]),
         .val (.slice (some ⟨pb, po, none⟩) n c),
         .val (.int .i64 (i : Int)),
         .val (.pointer (some ⟨pb, po + i * 4, none⟩)),
         .val (.pointer (some ⟨pb, po + i * 4 + 3, none⟩)),
         .val (.slice Ah m ch)]
        (fun W => Below.refl _ W) (fun _ _ _ h k => below_trans h k) (by kernel_rfl) ?_ ?_
      · refine ⟨?_, ?_, ?_, ?_, ?_, ?_, ?_, ?_, ?_, ?_, ?_, trivial⟩
        · intro ra RW hR hk hd K hK
          obtain ⟨e3, g3⟩ := hk 3 (.pointer (some ⟨p, 0, none⟩)) (by kernel_rfl) rfl
          clear hk hd
          have HR := Lib.hid hR
          clear hR
          go_simp
          exact hK _ _ (Below.refl _ _) rfl
        · intro ra RW hR hk hd K hK
          obtain ⟨e0, g0⟩ := hk 0 (.slice (some ⟨pb, po, none⟩) n c) (by kernel_rfl) rfl
          clear hk hd
          have HR := Lib.hid hR
          clear hR
          go_simp
          exact hK _ _ (Below.refl _ _) rfl
        · intro ra RW hR hk hd K hK
          obtain ⟨e9, g9⟩ := hk 9 (.int .i64 (i : Int)) (by kernel_rfl) rfl
          clear hk hd
          have HR := Lib.hid hR
          clear hR
          go_simp
          exact hK _ _ (Below.refl _ _) rfl
        · intro ra RW hR hk hd K hK
          obtain ⟨v57, e57, g57, f57⟩ := hd 1 57 (by kernel_rfl) rfl
          have f57 : v57 = .slice (some ⟨pb, po, none⟩) n c := f57
          subst f57
          obtain ⟨v58, e58, g58, f58⟩ := hd 2 58 (by kernel_rfl) rfl
          have f58 : v58 = .int .i64 (i : Int) := f58
          subst f58
          clear hk hd
          have HR := Lib.hid hR
          clear hR
          go_simp
          exact hK _ _ (Below.refl _ _) rfl
        · intro ra RW hR hk hd K hK
          obtain ⟨v59, e59, g59, f59⟩ := hd 3 59 (by kernel_rfl) rfl
          have f59 : v59 = .pointer (some ⟨pb, po + i * 4, none⟩) := f59
          subst f59
          clear hk hd
          have HR := Lib.hid hR
          clear hR
          go_simp
          exact hK _ _ (Below.refl _ _) rfl
        · intro ra RW hR hk hd K hK
          obtain ⟨v60, e60, g60, f60⟩ := hd 4 60 (by kernel_rfl) rfl
          have f60 : v60 = .pointer (some ⟨pb, po + i * 4, none⟩) := f60
          subst f60
          clear hk hd
          have HR := Lib.hid hR
          clear hR
          have dd0 := (HR.out.cell (p := ⟨pb, po + i * 4, none⟩) hpw).trans x0
          have dd1 := (HR.out.cell (p := ⟨pb, po + i * 4 + 1, none⟩) hpw).trans x1
          have dd2 := (HR.out.cell (p := ⟨pb, po + i * 4 + 2, none⟩) hpw).trans x2
          go_simp
          exact hK _ _ (Below.refl _ _) rfl
        · intro ra RW hR hk hd K hK
          obtain ⟨e0, g0⟩ := hk 0 (.slice (some ⟨pb, po, none⟩) n c) (by kernel_rfl) rfl
          clear hk hd
          have HR := Lib.hid hR
          clear hR
          go_simp
          exact hK _ _ (Below.refl _ _) rfl
        · intro ra RW hR hk hd K hK
          obtain ⟨e9, g9⟩ := hk 9 (.int .i64 (i : Int)) (by kernel_rfl) rfl
          clear hk hd
          have HR := Lib.hid hR
          clear hR
          go_simp
          exact hK _ _ (Below.refl _ _) rfl
        · intro ra RW hR hk hd K hK
          obtain ⟨v62, e62, g62, f62⟩ := hd 6 62 (by kernel_rfl) rfl
          have f62 : v62 = .slice (some ⟨pb, po, none⟩) n c := f62
          subst f62
          obtain ⟨v63, e63, g63, f63⟩ := hd 7 63 (by kernel_rfl) rfl
          have f63 : v63 = .int .i64 (i : Int) := f63
          subst f63
          clear hk hd
          have HR := Lib.hid hR
          clear hR
          go_simp
          exact hK _ _ (Below.refl _ _) rfl
        · intro ra RW hR hk hd K hK
          obtain ⟨v64, e64, g64, f64⟩ := hd 8 64 (by kernel_rfl) rfl
          have f64 : v64 = .pointer (some ⟨pb, po + i * 4, none⟩) := f64
          subst f64
          clear hk hd
          have HR := Lib.hid hR
          clear hR
          go_simp
          exact hK _ _ (Below.refl _ _) rfl
        · intro ra RW hR hk hd K hK
          obtain ⟨v65, e65, g65, f65⟩ := hd 9 65 (by kernel_rfl) rfl
          have f65 : v65 = .pointer (some ⟨pb, po + i * 4 + 3, none⟩) := f65
          subst f65
          clear hk hd
          have HR := Lib.hid hR
          clear hR
          have dd0 := (HR.out.cell (p := ⟨pb, po + i * 4 + 3, none⟩) hpw).trans x3
          go_simp
          exact hK _ _ (Below.refl _ _) rfl
      intro vs RW hR hF
      have q0 : vs 0 = .pointer (some ⟨p, 0, none⟩) := hF 0 (by decide)
      have q1 : vs 1 = .slice (some ⟨pb, po, none⟩) n c := hF 1 (by decide)
      have q2 : vs 2 = .int .i64 (i : Int) := hF 2 (by decide)
      have q3 : vs 3 = .pointer (some ⟨pb, po + i * 4, none⟩) := hF 3 (by decide)
      have q4 : vs 4 = .pointer (some ⟨pb, po + i * 4, none⟩) := hF 4 (by decide)
      have q5 : vs 5 = .agg #[.int .i64 x.r.n, .int .i64 x.r.a, .string TX] := hF 5 (by decide)
      have q6 : vs 6 = .slice (some ⟨pb, po, none⟩) n c := hF 6 (by decide)
      have q7 : vs 7 = .int .i64 (i : Int) := hF 7 (by decide)
      have q8 : vs 8 = .pointer (some ⟨pb, po + i * 4, none⟩) := hF 8 (by decide)
      have q9 : vs 9 = .pointer (some ⟨pb, po + i * 4 + 3, none⟩) := hF 9 (by decide)
      have q10 : vs 10 = .slice Ah m ch := hF 10 (by decide)
      simp only [List.take_succ_cons, List.take_zero, List.drop_succ_cons, List.drop_zero, setAll, List.setIfInBounds_toArray, List.set_cons_zero, List.set_cons_succ, q0, q1, q2, q3, q4, q5, q6, q7, q8, q9, q10]
      clear hF q0 q1 q2 q3 q4 q5 q6 q7 q8 q9 q10
      clear vs

      have HBR : Hid (Below w.heap.size wr RW) := (below_drewN (Below.refl w.heap.size wr) 1).trans (hR.mono hbw.out.size)
      have HTP1 := Lib.hid (htp.out.drew.below hR (Nat.le_refl _))
      have HTQ1 := Lib.hid (htq.out.drew.below hR (Nat.le_refl _))
      go_wp2_with (go_at_call 10; go_loud (refine (HADD1.out RW HTP1.out HBR.out).mono ?_; rintro e4 w4 ⟨v4, rfl, hown4, htr4, hon4⟩; obtain ⟨A4, c4, rfl, -, -⟩ := hown4.len_; have HTR4 := Lib.hid htr4; have HON4 := Lib.hid hon4; clear hown4 htr4 hon4))
      have hb4 : Below w.heap.size wr w4 := HBR.out.trans (HON4.out.below (by have := HBR.out.size; have := hbw.out.size; omega) (fun k hk => by have := HP0.out; omega))
      have HB4 := Lib.hid hb4
      have HTQ4 := Lib.hid (HTQ1.out.only HON4.out (by have := HPQ.out; omega) (fun k hk => by simp [Value.ownBlock] at hk))
      obtain ⟨x0, x1, x2, x3⟩ := HXB.out w4 hb4
      have hpw : pb < w4.drew.heap.size := by have := hb4.size; have := hbw.out.size; have : w4.drew.heap.size = w4.heap.size := rfl; omega
      clear hR hb4
      refine region_tail 11 (by kernel_rfl) (by kernel_rfl) (fun W W' => Below W.heap.size W W')
        [.val (.pointer (some ⟨q, 0, none⟩)),
         .val (.slice (some ⟨pb, po, none⟩) n c),
         .val (.int .i64 (i : Int)),
         .val (.pointer (some ⟨pb, po + i * 4, none⟩)),
         .val (.pointer (some ⟨pb, po + i * 4, none⟩)),
         .val (.agg #[.int .i64 x.r.n, .int .i64 x.r.a, .string TX]),
         .val (.slice (some ⟨pb, po, none⟩) n c),
         .val (.int .i64 (i : Int)),
         .val (.pointer (some ⟨pb, po + i * 4, none⟩)),
         .val (.pointer (some ⟨pb, po + i * 4 + 3, none⟩)),
         .val (.slice Ah m ch)]
        (fun W => Below.refl _ W) (fun _ _ _ h k => below_trans h k) (by kernel_rfl) ?_ ?_
      · refine ⟨?_, ?_, ?_, ?_, ?_, ?_, ?_, ?_, ?_, ?_, ?_, trivial⟩
        · intro ra RW hR hk hd K hK
          obtain ⟨e5, g5⟩ := hk 5 (.pointer (some ⟨q, 0, none⟩)) (by kernel_rfl) rfl
          clear hk hd
          have HR := Lib.hid hR
          clear hR
          go_simp
          exact hK _ _ (Below.refl _ _) rfl
        · intro ra RW hR hk hd K hK
          obtain ⟨e0, g0⟩ := hk 0 (.slice (some ⟨pb, po, none⟩) n c) (by kernel_rfl) rfl
          clear hk hd
          have HR := Lib.hid hR
          clear hR
          go_simp
          exact hK _ _ (Below.refl _ _) rfl
        · intro ra RW hR hk hd K hK
          obtain ⟨e9, g9⟩ := hk 9 (.int .i64 (i : Int)) (by kernel_rfl) rfl
          clear hk hd
          have HR := Lib.hid hR
          clear hR
          go_simp
          exact hK _ _ (Below.refl _ _) rfl
        · intro ra RW hR hk hd K hK
          obtain ⟨v70, e70, g70, f70⟩ := hd 1 70 (by kernel_rfl) rfl
          have f70 : v70 = .slice (some ⟨pb, po, none⟩) n c := f70
          subst f70
          obtain ⟨v71, e71, g71, f71⟩ := hd 2 71 (by kernel_rfl) rfl
          have f71 : v71 = .int .i64 (i : Int) := f71
          subst f71
          clear hk hd
          have HR := Lib.hid hR
          clear hR
          go_simp
          exact hK _ _ (Below.refl _ _) rfl
        · intro ra RW hR hk hd K hK
          obtain ⟨v72, e72, g72, f72⟩ := hd 3 72 (by kernel_rfl) rfl
          have f72 : v72 = .pointer (some ⟨pb, po + i * 4, none⟩) := f72
          subst f72
          clear hk hd
          have HR := Lib.hid hR
          clear hR
          go_simp
          exact hK _ _ (Below.refl _ _) rfl
        · intro ra RW hR hk hd K hK
          obtain ⟨v73, e73, g73, f73⟩ := hd 4 73 (by kernel_rfl) rfl
          have f73 : v73 = .pointer (some ⟨pb, po + i * 4, none⟩) := f73
          subst f73
          clear hk hd
          have HR := Lib.hid hR
          clear hR
          have dd0 := (HR.out.cell (p := ⟨pb, po + i * 4, none⟩) hpw).trans x0
          have dd1 := (HR.out.cell (p := ⟨pb, po + i * 4 + 1, none⟩) hpw).trans x1
          have dd2 := (HR.out.cell (p := ⟨pb, po + i * 4 + 2, none⟩) hpw).trans x2
          go_simp
          exact hK _ _ (Below.refl _ _) rfl
        · intro ra RW hR hk hd K hK
          obtain ⟨e0, g0⟩ := hk 0 (.slice (some ⟨pb, po, none⟩) n c) (by kernel_rfl) rfl
          clear hk hd
          have HR := Lib.hid hR
          clear hR
          go_simp
          exact hK _ _ (Below.refl _ _) rfl
        · intro ra RW hR hk hd K hK
          obtain ⟨e9, g9⟩ := hk 9 (.int .i64 (i : Int)) (by kernel_rfl) rfl
          clear hk hd
          have HR := Lib.hid hR
          clear hR
          go_simp
          exact hK _ _ (Below.refl _ _) rfl
        · intro ra RW hR hk hd K hK
          obtain ⟨v75, e75, g75, f75⟩ := hd 6 75 (by kernel_rfl) rfl
          have f75 : v75 = .slice (some ⟨pb, po, none⟩) n c := f75
          subst f75
          obtain ⟨v76, e76, g76, f76⟩ := hd 7 76 (by kernel_rfl) rfl
          have f76 : v76 = .int .i64 (i : Int) := f76
          subst f76
          clear hk hd
          have HR := Lib.hid hR
          clear hR
          go_simp
          exact hK _ _ (Below.refl _ _) rfl
        · intro ra RW hR hk hd K hK
          obtain ⟨v77, e77, g77, f77⟩ := hd 8 77 (by kernel_rfl) rfl
          have f77 : v77 = .pointer (some ⟨pb, po + i * 4, none⟩) := f77
          subst f77
          clear hk hd
          have HR := Lib.hid hR
          clear hR
          go_simp
          exact hK _ _ (Below.refl _ _) rfl
        · intro ra RW hR hk hd K hK
          obtain ⟨v78, e78, g78, f78⟩ := hd 9 78 (by kernel_rfl) rfl
          have f78 : v78 = .pointer (some ⟨pb, po + i * 4 + 3, none⟩) := f78
          subst f78
          clear hk hd
          have HR := Lib.hid hR
          clear hR
          have dd0 := (HR.out.cell (p := ⟨pb, po + i * 4 + 3, none⟩) hpw).trans x3
          go_simp
          exact hK _ _ (Below.refl _ _) rfl
      intro vs RW hR hF
      have q0 : vs 0 = .pointer (some ⟨q, 0, none⟩) := hF 0 (by decide)
      have q1 : vs 1 = .slice (some ⟨pb, po, none⟩) n c := hF 1 (by decide)
      have q2 : vs 2 = .int .i64 (i : Int) := hF 2 (by decide)
      have q3 : vs 3 = .pointer (some ⟨pb, po + i * 4, none⟩) := hF 3 (by decide)
      have q4 : vs 4 = .pointer (some ⟨pb, po + i * 4, none⟩) := hF 4 (by decide)
      have q5 : vs 5 = .agg #[.int .i64 x.r.n, .int .i64 x.r.a, .string TX] := hF 5 (by decide)
      have q6 : vs 6 = .slice (some ⟨pb, po, none⟩) n c := hF 6 (by decide)
      have q7 : vs 7 = .int .i64 (i : Int) := hF 7 (by decide)
      have q8 : vs 8 = .pointer (some ⟨pb, po + i * 4, none⟩) := hF 8 (by decide)
      have q9 : vs 9 = .pointer (some ⟨pb, po + i * 4 + 3, none⟩) := hF 9 (by decide)
      have q10 : vs 10 = .slice Ah m ch := hF 10 (by decide)
      simp only [List.take_succ_cons, List.take_zero, List.drop_succ_cons, List.drop_zero, setAll, List.setIfInBounds_toArray, List.set_cons_zero, List.set_cons_succ, q0, q1, q2, q3, q4, q5, q6, q7, q8, q9, q10]
      clear hF q0 q1 q2 q3 q4 q5 q6 q7 q8 q9 q10
      clear vs

      have HBR5 : Hid (Below w.heap.size wr RW) := HB4.out.trans ((below_drewN (Below.refl w.heap.size w4) 1).trans (hR.mono (by have := HB4.out.size; have := hbw.out.size; show w.heap.size ≤ w4.heap.size; omega)))
      have HTP5 := Lib.hid (HTR4.out.drew.below hR (Nat.le_refl _))
      have HTQ5 := Lib.hid (HTQ4.out.drew.below hR (Nat.le_refl _))
      clear hR
      rcases Nat.eq_zero_or_pos k with rfl | hkp
      · go_wp2_with (go_at_call 10; go_loud (refine (HADD2.out RW HTQ5.out HBR5.out).mono ?_; rintro e5 w5 ⟨v5, rfl, hown5, htr5, hon5⟩; obtain ⟨A5, c5, rfl, -, -⟩ := hown5.len_; have HTR5 := Lib.hid htr5; have HON5 := Lib.hid hon5; clear hown5 htr5 hon5))
        have HB6 := Lib.hid (hbw.out.trans (HBR5.out.trans (HON5.out.below (by have := HBR5.out.size; have := hbw.out.size; omega) (fun k hk => by have := HQ0.out; omega))))
        have HTP6 := Lib.hid (HTP5.out.only HON5.out (by have := HPQ.out; omega) (fun k hk => by simp [Value.ownBlock] at hk))
        rw [if_neg (Nat.lt_irrefl 0)] at HTR5
        go_roundw
        case rel => exact ⟨i + 1, r, h, by go_num, by omega, by go_num, by go_num, by omega, by omega, HTP6.out, HTR5.out, HB6.out⟩
        case measure => simp [intOf]; omega
      · rw [if_pos hkp] at HADD2
        have i3 : (0 : Int) < (k : Int) := by omega
        go_wp2_with (go_at_call 10; go_loud (refine (HADD2.out RW HTQ5.out HBR5.out).mono ?_; rintro e5 w5 ⟨v5, rfl, hown5, htr5, hon5⟩; obtain ⟨A5, c5, rfl, -, -⟩ := hown5.len_; have HTR5 := Lib.hid htr5; have HON5 := Lib.hid hon5; clear hown5 htr5 hon5))
        have HB6 := Lib.hid (hbw.out.trans (HBR5.out.trans (HON5.out.below (by have := HBR5.out.size; have := hbw.out.size; omega) (fun k hk => by have := HQ0.out; omega))))
        have HTP6 := Lib.hid (HTP5.out.only HON5.out (by have := HPQ.out; omega) (fun k hk => by simp [Value.ownBlock] at hk))
        go_roundw
        case rel => exact ⟨i + 1, r + 1, h + k, by go_num, by omega, by go_num, by go_num, by omega, by omega, HTP6.out, HTR5.out, HB6.out⟩
        case measure => simp [intOf]; omega
    · obtain rfl : i = n := by omega
      have hI1 : I64 (r : Int) := by unfold I64; omega
      have hI2 : I64 (h : Int) := by unfold I64; omega
      have hE := end_any (cnt r h) q _ wr htq.out HTW.out (by have := HQ0.out; omega) hI1 hI2
      rw [endL_cnt, show [Lib.itoa (r : Int) ++ [32] ++ Lib.itoa (h : Int)].length = 1 from rfl] at hE
      have HE := Lib.hid hE
      have HEP := Lib.hid (fun W (ht : Tr W p (new_ 0 0 0) (.slice none 0 0)) (hT : Tb W) => end_any (new_ 0 0 0) p _ W ht hT (by have := HP0.out; omega) (by simp [I64, new_]) (by simp [I64, new_]))
      rw [endL_0] at HEP
      have HD1 := Lib.hid (fun W => digits_any (r : Int) hI1 W)
      have HD2 := Lib.hid (fun W => digits_any (h : Int) hI2 W)
      have hs1 : (mk (Lib.itoa (r : Int))).size ≤ 20 := itoa_len _ hI1
      have hs2 : (mk (Lib.itoa (h : Int))).size ≤ 20 := itoa_len _ hI2
      have hlv : (mk (Lib.itoa (r : Int)) ++ ⟨#[32]⟩) ++ mk (Lib.itoa (h : Int)) = mk (Lib.itoa (r : Int) ++ [32] ++ Lib.itoa (h : Int)) := by rw [show (⟨#[32]⟩ : ByteArray) = mk [32] from rfl, mk_append, mk_append]
      obtain ⟨LN, hLN⟩ : ∃ X, Lib.itoa (r : Int) ++ [32] ++ Lib.itoa (h : Int) = X := ⟨_, rfl⟩
      rw [hLN] at HE hlv
      have HLV := Lib.hid hlv
      clear hE hI1 hI2 hlv hLN
      generalize mk (Lib.itoa (r : Int)) = SR at *
      generalize mk (Lib.itoa (h : Int)) = SH at *
      go_wp2_with (go_at_call 13; go_loud (refine HE.out.mono ?_; rintro e4 w4 ⟨v4, rfl, hown4, hk4, htr4, hon4⟩; obtain ⟨A4, c4, rfl, -, -⟩ := hown4.len_; have HOWN4 := Lib.hid hown4; have HTR4 := Lib.hid htr4; have HON4 := Lib.hid hon4; have HK4 := Lib.hid hk4; clear hown4 htr4 hon4 hk4))
      refine (HD1.out w4).mono ?_
      rintro e5 w5 ⟨rfl, hb5⟩
      have HB5 := Lib.hid hb5
      clear hb5
      go_wp2_with fail
      refine (HD2.out w5).mono ?_
      rintro e6 w6 ⟨rfl, hb6⟩
      have HB6 := Lib.hid (below_trans HB5.out hb6)
      clear hb6
      have hl1 : (SR ++ (⟨#[32]⟩ : ByteArray) ++ SH).size ≤ 41 := by
        simp only [ByteArray.size_append]
        have : (⟨#[32]⟩ : ByteArray).size = 1 := rfl
        omega
      go_wp2_with fail
      rw [HLV.out]
      have HTP4 := Lib.hid (htp.out.only HON4.out (by have := HPQ.out; omega) (fun k hk => by simp [Value.ownBlock] at hk))
      have hlit := Own.lit w6 9 1 1 #[.string (mk LN)] rfl (by decide)
      have HBL := Lib.hid (below_al HB6.out (.cells #[.string (mk LN)] 9))
      have hx4 := HOWN4.out.below HBL.out (fun k hk => HOWN4.out.lt hk)
      have HCL := Lib.hid (texts_same A4 _ 1 c4 1 [mk LN] _ _ _ hx4.rd hlit.rd (by decide))
      clear hx4 hlit
      refine HCL.out.mono ?_
      rintro e7 w7 ⟨rfl, q7, rfl⟩
      have HTP7 := Lib.hid ((HTP4.out.below HBL.out (Nat.le_refl _)).below (below_drewN (Below.refl _ _) q7) (Nat.le_refl _))
      have hb4 := hbw.out.trans (HON4.out.below hbw.out.size (fun k hk => by have := HQ0.out; omega))
      have HB7 := Lib.hid (hb4.trans ((HBL.out.mono hb4.size).trans (below_drewN (Below.refl _ _) q7)))
      clear hb4
      go_wp2_with (go_at_call 13; go_loud (refine (HEP.out _ HTP7.out (HT.out.below' HB7.out)).mono ?_; rintro e8 w8 ⟨v8, rfl, hown8, hk8, htr8, hon8⟩; obtain ⟨A8, c8, rfl, -, -⟩ := hown8.len_; have HON8 := Lib.hid hon8; clear hown8 htr8 hon8 hk8))
      go_ret
      exact ⟨rfl, HB7.out.trans (HON8.out.below HB7.out.size (fun k hk => by have := HP0.out; omega))⟩
end Go.Proofs.YtbgmdjceecbbhaaDoor
