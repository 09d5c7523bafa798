/-
  The contract of the source's function Next; no condition beyond those that each theorem states.
-/
import Derived.Test.YtnigmfjghapfgaaSrc1
namespace Go.Proofs.Ytnigmfjghapfgaa
open Go.RowKit Go.Rb

/-- How many octets are given. -/
def nxN (s : SS) (m len : Nat) : Nat := if 0 ≤ s.fl then min (min m len) (s.fl - s.gv).toNat else min m len
/-- What is left then. -/
def nxS (s : SS) (n : Nat) (q : List UInt8) (rest : List (List UInt8)) : SS := ⟨if n = q.length then rest else q.drop n :: rest, s.gv + n, s.lf - n, s.fl⟩

attribute [local irreducible] Go.wpQuiet

set_option maxHeartbeats 2000000 in
theorem next_arg {S : Nat → Prop} {p : Nat} {s : SS} (m : Int) (w : World) (hR : Rep w S p s) (hm : m < 1) :
    Calls Try.prog 9 #[pp p, .int .i64 m] w fun e w' => e = .returned (.tuple #[.slice none 0 0, .int .i64 2]) ∧ w = w' := by
  clear hR
  unfold pp
  go_enter Try.func9, Try.ntmps9
  go_wp2
  go_ret2
  exact ⟨rfl, rfl⟩
set_option maxHeartbeats 2000000 in
theorem next_fail {S : Nat → Prop} {p : Nat} {s : SS} (m : Int) (w : World) (hR : Rep w S p s) (hm : 1 ≤ m) (h1 : 0 ≤ s.fl) (h2 : s.fl ≤ s.gv) :
    Calls Try.prog 9 #[pp p, .int .i64 m] w fun e w' => e = .returned (.tuple #[.slice none 0 0, .int .i64 11]) ∧ ∃ q, w' = w.drewN q := by
  obtain ⟨pv, vs, h⟩ := hR
  have c1 := h.c1
  have c3 := h.c3
  clear h
  generalize s.fl = fl at *
  generalize s.gv = gv at *
  have i1 : ¬ m < 1 := by omega
  have b1 : decide (0 ≤ fl) = true := by simpa using h1
  have b2 : decide (fl ≤ (gv : Int)) = true := by simpa using h2
  unfold pp
  go_enter Try.func9, Try.ntmps9
  go_wp2
  go_quiet (fail)
  go_wp2
  go_ret2
  exact ⟨rfl, _, rfl⟩
set_option maxHeartbeats 2000000 in
theorem next_none {S : Nat → Prop} {p : Nat} {s : SS} (m : Int) (w : World) (hR : Rep w S p s) (hm : 1 ≤ m) (h1 : ¬ (0 ≤ s.fl ∧ s.fl ≤ s.gv)) (h2 : s.lf = 0) :
    Calls Try.prog 9 #[pp p, .int .i64 m] w fun e w' => e = .returned (.tuple #[.slice none 0 0, .int .i64 19]) ∧ ∃ q, w' = w.drewN q := by
  obtain ⟨pv, vs, h⟩ := hR
  have c1 := h.c1
  have c2 := h.c2
  have c3 := h.c3
  rw [h2] at c2
  clear h h2
  generalize s.fl = fl at *
  generalize s.gv = gv at *
  have i1 : ¬ m < 1 := by omega
  unfold pp
  by_cases hf : 0 ≤ fl
  · have b1 : decide (0 ≤ fl) = true := by simpa using hf
    have b2 : decide (fl ≤ (gv : Int)) = false := by simp; omega
    have i2 : ¬ fl ≤ (gv : Int) := by omega
    clear h1
    go_enter Try.func9, Try.ntmps9
    go_wp2
    go_quiet (fail)
    go_wp2
    go_ret2
    exact ⟨rfl, _, rfl⟩
  · have b1 : decide (0 ≤ fl) = false := by simpa using hf
    clear h1
    go_enter Try.func9, Try.ntmps9
    go_wp2
    go_quiet (fail)
    go_wp2
    go_ret2
    exact ⟨rfl, _, rfl⟩

set_option maxRecDepth 20000 in
set_option maxHeartbeats 4000000 in
theorem next_ok {S : Nat → Prop} {p : Nat} {s : SS} (m : Nat) (w : World) (hR : Rep w S p s) (hw : Wf s) (q : List UInt8) (rest : List (List UInt8)) (hps : s.ps = q :: rest) (hm : 1 ≤ m) (hm2 : m ≤ 9223372036854775807) (h1 : ¬ (0 ≤ s.fl ∧ s.fl ≤ s.gv)) (hlf : s.lf ≤ 100000) (hgv : s.gv ≤ 100000) (hfl : s.fl ≤ 9223372036854775807) :
    Calls Try.prog 9 #[pp p, .int .i64 (m : Int)] w fun e w' => ∃ v, e = .returned (.tuple #[v, .int .i64 0]) ∧ Own w' 5 1 v (nxN s m q.length) ((q.take (nxN s m q.length)).map bV) ∧ (∀ k, v.ownBlock = some k → w.heap.size ≤ k) ∧ Only S w w' ∧ Rep w' S p (nxS s (nxN s m q.length) q rest) := by
  obtain ⟨pv, vs, h⟩ := hR
  obtain ⟨gp, op, np, cp, g0, o0, c0, vs', rfl, hnp, hcp, sgp, rfl, cgp, hfz, ho, sg0, hc0⟩ := h.first hps (hw.ne q (by rw [hps]; simp))
  have hq1 : 1 ≤ q.length := List.length_pos_iff.2 (hw.ne q (by rw [hps]; simp))
  have hq2 : q.length ≤ s.lf := by rw [hw.lf, hps, List.flatten_cons, List.length_append]; omega
  have c0' := h.c0
  have c1 := h.c1
  have c2 := h.c2
  have c3 := h.c3
  have HH := Lib.hid h
  have HO := Lib.hid ho
  have HSG := Lib.hid sgp
  have HSG0 := Lib.hid sg0
  have HCP := Lib.hid cgp
  have HFR := Lib.hid hfz
  have HNP := Lib.hid hnp
  have HPS := Lib.hid hps
  have HPL : Hid (s.ps.length = np) := by show _ = _; rw [hps, hnp]; rfl
  have hnd : nxN s m q.length = if 0 ≤ s.fl then min (min m q.length) (s.fl - s.gv).toNat else min m q.length := rfl
  have hlb : ((s.lf : Int) == 0) = false := by rw [beq_eq_false_iff_ne]; omega
  have hnp1 : 0 < np := by omega
  clear h ho hps hnp hw sg0 hfz
  generalize hq0 : q.length = n0 at *
  have HQ := Lib.hid hq0
  generalize hN : nxN s m n0 = n at *
  have i1 : ¬ (m : Int) < 1 := by omega
  unfold pp
  by_cases hf : 0 ≤ s.fl
  · rw [if_pos hf] at hnd
    have b1 : decide (0 ≤ s.fl) = true := by simpa using hf
    have b2 : decide (s.fl ≤ (s.gv : Int)) = false := by simp; omega
    have i2 : ¬ s.fl ≤ (s.gv : Int) := by omega
    obtain ⟨d, hd⟩ : ∃ d : Nat, s.fl - (s.gv : Int) = (d : Int) := ⟨(s.fl - s.gv).toNat, by omega⟩
    have e2 : min (m : Int) (min (n0 : Int) (d : Int)) = (n : Int) := by omega
    have hn1 : 1 ≤ n ∧ n ≤ n0 := by omega
    clear h1 hnd
    go_enter Try.func9, Try.ntmps9
    go_wp2
    go_quiet (fail)
    have HBV : Hid (Below w.heap.size w (w.drewN nq)) := below_drewN (Below.refl _ _) nq
    have f0 : (w.drewN nq).cell? ⟨p, 0, none⟩ = _ := c0'
    have f1 : (w.drewN nq).cell? ⟨p, 1, none⟩ = _ := c1
    have f2 : (w.drewN nq).cell? ⟨p, 2, none⟩ = _ := c2
    have f3 : (w.drewN nq).cell? ⟨p, 3, none⟩ = _ := c3
    have fp : (w.drewN nq).cell? ⟨gp, op, none⟩ = _ := cgp
    clear c0' c1 c2 c3 cgp
    generalize w.drewN nq = wa at *
    go_wp2
    go_quiet (fail)
    have HBW : Hid (Below w.heap.size w (wa.drewN nq)) := below_drewN HBV.out nq
    have k0 : (wa.drewN nq).cell? ⟨p, 0, none⟩ = _ := f0
    have k1 : (wa.drewN nq).cell? ⟨p, 1, none⟩ = _ := f1
    have k2 : (wa.drewN nq).cell? ⟨p, 2, none⟩ = _ := f2
    have k3 : (wa.drewN nq).cell? ⟨p, 3, none⟩ = _ := f3
    have kp : (wa.drewN nq).cell? ⟨gp, op, none⟩ = _ := fp
    clear f0 f1 f2 f3 fp
    generalize wa.drewN nq = wb at *
    have HBW0 := HBW
    have HCL : Hid (∀ W, Below w.heap.size w W → Calls Try.prog 20 #[.slice (some ⟨g0, o0, none⟩) n c0] W (RetNewB W (q.take n))) := fun W hW => by
      have h1 := (HO.out.below hW fun _ hk => HO.out.lt hk).rd.take_ (k := n) (by omega)
      rw [Nat.mul_one, ← List.map_take] at h1
      exact clone_some g0 o0 n c0 _ _ W h1 (by omega) (Nat.le_refl _)
    have htl : (q.take n).length = n := by rw [List.length_take, HQ.out]; omega
    have HTL := Lib.hid htl
    clear htl
    go_wp2_with (go_at_call 20; refine (HCL.out _ HBW.out).mono ?_; rintro e2 w2 ⟨v2, rfl, hn2, hb2, hk2⟩; rw [HTL.out] at hn2; obtain ⟨A2, c2, rfl, -, -⟩ := hn2.len_; have HN2 := Lib.hid hn2; have HB2 := Lib.hid hb2; have HK2 := Lib.hid hk2; clear hn2 hb2 hk2)
    have HBX : Hid (Below w.heap.size w w2) := HBW.out.trans (HB2.out.mono HBW.out.size)
    have HR2 : Hid (RepA w2 S p (.slice (some ⟨gp, op, none⟩) np cp) (.slice (some ⟨g0, o0, none⟩) n0 c0 :: vs') s) := HH.out.frame (Only.of_below HBX.out) (fun k hk => by have := HH.out.lt k hk; omega)
    have d0 : w2.drew.cell? ⟨p, 0, none⟩ = some (.slice (some ⟨gp, op, none⟩) np cp) := HR2.out.c0
    have dp : w2.drew.cell? ⟨gp, op, none⟩ = some (.slice (some ⟨g0, o0, none⟩) n0 c0) := (HBX.out.cell (p := ⟨gp, op, none⟩) (HH.out.lt gp HSG.out)).trans HCP.out
    have df : ∀ j, w2.drew.frozen? ⟨gp, j, none⟩ = false := fun j => (HBX.out.frozen (p := ⟨gp, j, none⟩) (HH.out.lt gp HSG.out)).trans (HFR.out j)
    clear HBW HCL
    refine region_objs (by kernel_rfl) (fun _ _ => True)
      [.val (.pointer (some ⟨p, 0, none⟩)),
       .val (.pointer (some ⟨p, 0, none⟩)),
       .val (.pointer (some ⟨p, 0, none⟩)),
       .val (.slice (some ⟨gp, op, none⟩) np cp),
       .val (.pointer (some ⟨p, 0, none⟩)),
       .val (.pointer (some ⟨p, 0, none⟩)),
       .val (.pointer (some ⟨p, 0, none⟩)),
       .val (.slice (some ⟨gp, op, none⟩) np cp),
       .val (.pointer (some ⟨gp, op, none⟩)),
       .val (.slice (some ⟨g0, o0, none⟩) n0 c0),
       .val (.int .i64 (n : Int)),
       .val (.slice (if c0 = n then some ⟨g0, o0, none⟩ else some ⟨g0, o0 + n, none⟩) (n0 - n) (c0 - n)),
       .val (.pointer (some ⟨gp, op, none⟩)),
       .any]
      (⟨13, fun W => W = w2.drew, fun W => W = w2.drew.setCell ⟨gp, op, none⟩ (.slice (if c0 = n then some ⟨g0, o0, none⟩ else some ⟨g0, o0 + n, none⟩) (n0 - n) (c0 - n))⟩) (⟨13, fun _ => True, fun _ => True⟩) (fun _ => trivial) (fun _ _ _ _ _ => trivial) (by kernel_rfl) (rfl) (trivial) ⟨Nat.le_of_ble_eq_true rfl, Nat.le_of_ble_eq_true rfl⟩ ?_ ?_
    · refine ⟨?_, ?_, ?_, ?_, ?_, ?_, ?_, ?_, ?_, ?_, ?_, ?_, ?_, ?_, trivial⟩
      · intro ra RW hR hsA hsB hk hd K hK
        have SA := Lib.hid hsA
        have SB := Lib.hid hsB
        clear hsA hsB
        have hw : RW = w2.drew := SA.out.early (by kernel_rfl)
        subst hw
        obtain ⟨e0, g0⟩ := hk 0 (.pointer (some ⟨p, 0, none⟩)) (by kernel_rfl) rfl
        clear hk hd
        have HR := Lib.hid hR
        clear hR
        go_simp
        exact hK _ _ (trivial) rfl (SA.out.same (Nat.ne_of_beq_eq_false rfl)) (SB.out.same (Nat.ne_of_beq_eq_false rfl))
      · intro ra RW hR hsA hsB hk hd K hK
        have SA := Lib.hid hsA
        have SB := Lib.hid hsB
        clear hsA hsB
        have hw : RW = w2.drew := SA.out.early (by kernel_rfl)
        subst hw
        obtain ⟨v68, e68, g68, f68⟩ := hd 0 68 (by kernel_rfl) rfl
        have f68 : v68 = .pointer (some ⟨p, 0, none⟩) := f68
        subst f68
        clear hk hd
        have HR := Lib.hid hR
        clear hR
        go_simp
        exact hK _ _ (trivial) rfl (SA.out.same (Nat.ne_of_beq_eq_false rfl)) (SB.out.same (Nat.ne_of_beq_eq_false rfl))
      · intro ra RW hR hsA hsB hk hd K hK
        have SA := Lib.hid hsA
        have SB := Lib.hid hsB
        clear hsA hsB
        have hw : RW = w2.drew := SA.out.early (by kernel_rfl)
        subst hw
        obtain ⟨v69, e69, g69, f69⟩ := hd 1 69 (by kernel_rfl) rfl
        have f69 : v69 = .pointer (some ⟨p, 0, none⟩) := f69
        subst f69
        clear hk hd
        have HR := Lib.hid hR
        clear hR
        go_simp
        exact hK _ _ (trivial) rfl (SA.out.same (Nat.ne_of_beq_eq_false rfl)) (SB.out.same (Nat.ne_of_beq_eq_false rfl))
      · intro ra RW hR hsA hsB hk hd K hK
        have SA := Lib.hid hsA
        have SB := Lib.hid hsB
        clear hsA hsB
        have hw : RW = w2.drew := SA.out.early (by kernel_rfl)
        subst hw
        obtain ⟨v70, e70, g70, f70⟩ := hd 2 70 (by kernel_rfl) rfl
        have f70 : v70 = .pointer (some ⟨p, 0, none⟩) := f70
        subst f70
        clear hk hd
        have HR := Lib.hid hR
        clear hR
        go_simp
        exact hK _ _ (trivial) rfl (SA.out.same (Nat.ne_of_beq_eq_false rfl)) (SB.out.same (Nat.ne_of_beq_eq_false rfl))
      · intro ra RW hR hsA hsB hk hd K hK
        have SA := Lib.hid hsA
        have SB := Lib.hid hsB
        clear hsA hsB
        have hw : RW = w2.drew := SA.out.early (by kernel_rfl)
        subst hw
        obtain ⟨e0, g0⟩ := hk 0 (.pointer (some ⟨p, 0, none⟩)) (by kernel_rfl) rfl
        clear hk hd
        have HR := Lib.hid hR
        clear hR
        go_simp
        exact hK _ _ (trivial) rfl (SA.out.same (Nat.ne_of_beq_eq_false rfl)) (SB.out.same (Nat.ne_of_beq_eq_false rfl))
      · intro ra RW hR hsA hsB hk hd K hK
        have SA := Lib.hid hsA
        have SB := Lib.hid hsB
        clear hsA hsB
        have hw : RW = w2.drew := SA.out.early (by kernel_rfl)
        subst hw
        obtain ⟨v72, e72, g72, f72⟩ := hd 4 72 (by kernel_rfl) rfl
        have f72 : v72 = .pointer (some ⟨p, 0, none⟩) := f72
        subst f72
        clear hk hd
        have HR := Lib.hid hR
        clear hR
        go_simp
        exact hK _ _ (trivial) rfl (SA.out.same (Nat.ne_of_beq_eq_false rfl)) (SB.out.same (Nat.ne_of_beq_eq_false rfl))
      · intro ra RW hR hsA hsB hk hd K hK
        have SA := Lib.hid hsA
        have SB := Lib.hid hsB
        clear hsA hsB
        have hw : RW = w2.drew := SA.out.early (by kernel_rfl)
        subst hw
        obtain ⟨v73, e73, g73, f73⟩ := hd 5 73 (by kernel_rfl) rfl
        have f73 : v73 = .pointer (some ⟨p, 0, none⟩) := f73
        subst f73
        clear hk hd
        have HR := Lib.hid hR
        clear hR
        go_simp
        exact hK _ _ (trivial) rfl (SA.out.same (Nat.ne_of_beq_eq_false rfl)) (SB.out.same (Nat.ne_of_beq_eq_false rfl))
      · intro ra RW hR hsA hsB hk hd K hK
        have SA := Lib.hid hsA
        have SB := Lib.hid hsB
        clear hsA hsB
        have hw : RW = w2.drew := SA.out.early (by kernel_rfl)
        subst hw
        obtain ⟨v74, e74, g74, f74⟩ := hd 6 74 (by kernel_rfl) rfl
        have f74 : v74 = .pointer (some ⟨p, 0, none⟩) := f74
        subst f74
        clear hk hd
        have HR := Lib.hid hR
        clear hR
        go_simp
        exact hK _ _ (trivial) rfl (SA.out.same (Nat.ne_of_beq_eq_false rfl)) (SB.out.same (Nat.ne_of_beq_eq_false rfl))
      · intro ra RW hR hsA hsB hk hd K hK
        have SA := Lib.hid hsA
        have SB := Lib.hid hsB
        clear hsA hsB
        have hw : RW = w2.drew := SA.out.early (by kernel_rfl)
        subst hw
        obtain ⟨v75, e75, g75, f75⟩ := hd 7 75 (by kernel_rfl) rfl
        have f75 : v75 = .slice (some ⟨gp, op, none⟩) np cp := f75
        subst f75
        clear hk hd
        have HR := Lib.hid hR
        clear hR
        go_simp
        exact hK _ _ (trivial) rfl (SA.out.same (Nat.ne_of_beq_eq_false rfl)) (SB.out.same (Nat.ne_of_beq_eq_false rfl))
      · intro ra RW hR hsA hsB hk hd K hK
        have SA := Lib.hid hsA
        have SB := Lib.hid hsB
        clear hsA hsB
        have hw : RW = w2.drew := SA.out.early (by kernel_rfl)
        subst hw
        obtain ⟨v76, e76, g76, f76⟩ := hd 8 76 (by kernel_rfl) rfl
        have f76 : v76 = .pointer (some ⟨gp, op, none⟩) := f76
        subst f76
        clear hk hd
        have HR := Lib.hid hR
        clear hR
        go_simp
        exact hK _ _ (trivial) rfl (SA.out.same (Nat.ne_of_beq_eq_false rfl)) (SB.out.same (Nat.ne_of_beq_eq_false rfl))
      · intro ra RW hR hsA hsB hk hd K hK
        have SA := Lib.hid hsA
        have SB := Lib.hid hsB
        clear hsA hsB
        have hw : RW = w2.drew := SA.out.early (by kernel_rfl)
        subst hw
        obtain ⟨e6, g6⟩ := hk 6 (.int .i64 (n : Int)) (by kernel_rfl) rfl
        clear hk hd
        have HR := Lib.hid hR
        clear hR
        go_simp
        exact hK _ _ (trivial) rfl (SA.out.same (Nat.ne_of_beq_eq_false rfl)) (SB.out.same (Nat.ne_of_beq_eq_false rfl))
      · intro ra RW hR hsA hsB hk hd K hK
        have SA := Lib.hid hsA
        have SB := Lib.hid hsB
        clear hsA hsB
        have hw : RW = w2.drew := SA.out.early (by kernel_rfl)
        subst hw
        obtain ⟨v77, e77, g77, f77⟩ := hd 9 77 (by kernel_rfl) rfl
        have f77 : v77 = .slice (some ⟨g0, o0, none⟩) n0 c0 := f77
        subst f77
        obtain ⟨v78, e78, g78, f78⟩ := hd 10 78 (by kernel_rfl) rfl
        have f78 : v78 = .int .i64 (n : Int) := f78
        subst f78
        clear hk hd
        have HR := Lib.hid hR
        clear hR
        go_simp
        exact hK _ _ (trivial) rfl (SA.out.same (Nat.ne_of_beq_eq_false rfl)) (SB.out.same (Nat.ne_of_beq_eq_false rfl))
      · intro ra RW hR hsA hsB hk hd K hK
        have SA := Lib.hid hsA
        have SB := Lib.hid hsB
        clear hsA hsB
        have hw : RW = w2.drew := SA.out.early (by kernel_rfl)
        subst hw
        obtain ⟨v71, e71, g71, f71⟩ := hd 3 71 (by kernel_rfl) rfl
        have f71 : v71 = .slice (some ⟨gp, op, none⟩) np cp := f71
        subst f71
        clear hk hd
        have HR := Lib.hid hR
        clear hR
        go_simp
        exact hK _ _ (trivial) rfl (SA.out.same (Nat.ne_of_beq_eq_false rfl)) (SB.out.same (Nat.ne_of_beq_eq_false rfl))
      · intro ra RW hR hsA hsB hk hd K hK
        have SA := Lib.hid hsA
        have SB := Lib.hid hsB
        clear hsA hsB
        have hw : RW = w2.drew := SA.out.self rfl
        subst hw
        obtain ⟨v80, e80, g80, f80⟩ := hd 12 80 (by kernel_rfl) rfl
        have f80 : v80 = .pointer (some ⟨gp, op, none⟩) := f80
        subst f80
        obtain ⟨v79, e79, g79, f79⟩ := hd 11 79 (by kernel_rfl) rfl
        have f79 : v79 = .slice (if c0 = n then some ⟨g0, o0, none⟩ else some ⟨g0, o0 + n, none⟩) (n0 - n) (c0 - n) := f79
        subst f79
        clear hk hd
        have HR := Lib.hid hR
        clear hR
        go_simp
        exact hK undef _ trivial trivial (SideOut.self rfl rfl) (SideOut.self rfl trivial)
    intro vs RW hR hpA hpB hF
    have q0 : vs 0 = .pointer (some ⟨p, 0, none⟩) := hF 0 (by decide)
    have q1 : vs 1 = .pointer (some ⟨p, 0, none⟩) := hF 1 (by decide)
    have q2 : vs 2 = .pointer (some ⟨p, 0, none⟩) := hF 2 (by decide)
    have q3 : vs 3 = .slice (some ⟨gp, op, none⟩) np cp := hF 3 (by decide)
    have q4 : vs 4 = .pointer (some ⟨p, 0, none⟩) := hF 4 (by decide)
    have q5 : vs 5 = .pointer (some ⟨p, 0, none⟩) := hF 5 (by decide)
    have q6 : vs 6 = .pointer (some ⟨p, 0, none⟩) := hF 6 (by decide)
    have q7 : vs 7 = .slice (some ⟨gp, op, none⟩) np cp := hF 7 (by decide)
    have q8 : vs 8 = .pointer (some ⟨gp, op, none⟩) := hF 8 (by decide)
    have q9 : vs 9 = .slice (some ⟨g0, o0, none⟩) n0 c0 := hF 9 (by decide)
    have q10 : vs 10 = .int .i64 (n : Int) := hF 10 (by decide)
    have q11 : vs 11 = .slice (if c0 = n then some ⟨g0, o0, none⟩ else some ⟨g0, o0 + n, none⟩) (n0 - n) (c0 - n) := hF 11 (by decide)
    have q12 : vs 12 = .pointer (some ⟨gp, op, none⟩) := hF 12 (by decide)
    simp only [setAll, List.setIfInBounds_toArray, List.set_cons_zero, List.set_cons_succ, q0, q1, q2, q3, q4, q5, q6, q7, q8, q9, q10, q11, q12]
    clear hF q0 q1 q2 q3 q4 q5 q6 q7 q8 q9 q10 q11 q12
    clear vs
    subst hpA
    clear hpB hR d0 dp df
    have HK : Hid (∀ v0' : Value, v0' = .slice (if c0 = n then some ⟨g0, o0, none⟩ else some ⟨g0, o0 + n, none⟩) (n0 - n) (c0 - n) →
        Blk (w2.drew.setCell ⟨gp, op, none⟩ v0') p 49 #[.slice (some ⟨gp, op, none⟩) np cp, .int .i64 (s.gv : Int), .int .i64 (s.lf : Int), .int .i64 s.fl] ∧
        (w2.drew.setCell ⟨gp, op, none⟩ v0').cell? ⟨gp, op, none⟩ = some v0' ∧
        Own (w2.drew.setCell ⟨gp, op, none⟩ v0') 22 1 (.slice (some ⟨gp, op, none⟩) np cp) np (v0' :: vs') ∧
        Own (w2.drew.setCell ⟨gp, op, none⟩ v0') 5 1 v0' (n0 - n) ((q.drop n).map bV) ∧
        (∀ (i : Nat) (r : List UInt8), rest[i]? = some r → ∃ v, vs'[i]? = some v ∧ Own (w2.drew.setCell ⟨gp, op, none⟩ v0') 5 1 v r.length (r.map bV) ∧ ∀ k, v.ownBlock = some k → S k) ∧
        Own (w2.drew.setCell ⟨gp, op, none⟩ v0') 5 1 (.slice A2 n c2) n ((q.take n).map bV) ∧ Only S w (w2.drew.setCell ⟨gp, op, none⟩ v0')) := by
      intro v0' hv
      have hr := HR2.out
      have hpo : Own w2.drew 22 1 (.slice (some ⟨gp, op, none⟩) np cp) np (.slice (some ⟨g0, o0, none⟩) n0 c0 :: vs') := by
        have := hr.po
        rw [HPL.out] at this
        exact this
      have hgp : gp ≠ p := fun e => own_ne_blk hpo hr.tb (by decide) (by rw [← e]; rfl)
      have hO2 : Own w2.drew 5 1 (.slice (some ⟨g0, o0, none⟩) n0 c0) n0 (q.map bV) := HO.out.below (w' := w2.drew) ⟨HBX.out.os, HBX.out.tape, HBX.out.output, HBX.out.size, HBX.out.block⟩ fun _ hk => HO.out.lt hk
      have hnb : ∀ (u : Value) (r : List UInt8), Own w2.drew 5 1 u r.length (r.map bV) → u.ownBlock ≠ some gp := fun u r hu e => own_ne hu hpo (by decide) gp e rfl
      have hst := hpo.store 0 (by rw [HNP.out]; omega) v0'
      simp only [Nat.add_zero, List.set_cons_zero] at hst
      refine ⟨Blk.far (w := w2.drew) (p := ⟨gp, op, none⟩) hr.tb (Ne.symm hgp) _, ?_, hst, ?_, ?_, ?_, ?_⟩
      · obtain ⟨g', o', c', hv', _, _, _, hc, _⟩ := hst.form (by rw [HNP.out]; omega)
        simp only [Value.slice.injEq, Option.some.injEq, Addr.mk.injEq, true_and, and_true] at hv'
        obtain ⟨⟨rfl, rfl⟩, rfl⟩ := hv'
        have := hc 0 (by rw [HNP.out]; omega)
        simpa using this
      · have h1 := hO2.tail_ n (by omega)
        rw [Nat.mul_one, ← List.map_drop] at h1
        rw [apply_ite some] at h1
        rw [← hv] at h1
        exact h1.setCell (p := ⟨gp, op, none⟩) (fun e => own_ne h1 hpo (by decide) gp e rfl) _
      · intro i r hi
        obtain ⟨v, h1, h2, h3⟩ := hr.pc (i + 1) r (by rw [HPS.out]; exact hi)
        exact ⟨v, by simpa using h1, Own.setCell (w := w2.drew) (p := ⟨gp, op, none⟩) h2 (hnb v r h2) _, h3⟩
      · exact Own.setCell (w := w2.drew) (p := ⟨gp, op, none⟩) HN2.out (fun e => own_ne (w := w2.drew) HN2.out hpo (by decide) gp e rfl) _
      · refine Only.setCell (p := ⟨gp, op, none⟩) ?_ (fun _ => HSG.out) _
        exact (Only.of_below (w' := w2.drew) ⟨HBX.out.os, HBX.out.tape, HBX.out.output, HBX.out.size, HBX.out.block⟩).mono (fun k hk hk2 => by omega)
    have HLT : Hid (∀ k, S k → k < w.heap.size) := HH.out.lt
    have HNB : Hid (∀ k, (Value.slice A2 n c2).ownBlock = some k → w.heap.size ≤ k) := fun k hk => Nat.le_trans HBW0.out.size (HK2.out k hk)
    have HSP : Hid (S p) := HH.out.sp
    obtain ⟨k1, k2, k3, k4, k5, k6, k7⟩ := HK.out _ rfl
    clear HK
    have HSA : Hid (∀ k, (Value.slice (if c0 = n then some (⟨g0, o0, none⟩ : Addr) else some ⟨g0, o0 + n, none⟩) (n0 - n) (c0 - n)).ownBlock = some k → S k) := fun k hk => by
      have : g0 = k := by split at hk <;> simpa [Value.ownBlock] using hk
      rw [← this]; exact HSG0.out
    generalize (if c0 = n then some (⟨g0, o0, none⟩ : Addr) else some ⟨g0, o0 + n, none⟩) = A0 at *
    generalize c0 - n = cz at *
    generalize w2.drew.setCell ⟨gp, op, none⟩ (.slice A0 (n0 - n) cz) = w3 at *
    have l0 : w3.cell? ⟨p, 0, none⟩ = some (.slice (some ⟨gp, op, none⟩) np cp) := by rw [k1.cell]; rfl
    have l1 : w3.cell? ⟨p, 1, none⟩ = some (.int .i64 (s.gv : Int)) := by rw [k1.cell]; rfl
    have l2 : w3.cell? ⟨p, 2, none⟩ = some (.int .i64 (s.lf : Int)) := by rw [k1.cell]; rfl
    have l3 := k1.frozen
    have HK1 := Lib.hid k1; have HK3 := Lib.hid k3; have HK4 := Lib.hid k4; have HK5 := Lib.hid k5; have HK6 := Lib.hid k6; have HK7 := Lib.hid k7
    clear k1 k3 k4 k5 k6 k7
    have hsub : (s.lf : Int) - (n : Int) = ((s.lf - n : Nat) : Int) := by omega
    generalize hlm : s.lf - n = lm at *
    have HLM := Lib.hid hlm
    clear hlm
    by_cases hnn : n = n0
    · subst hnn
      simp only [Nat.sub_self] at k2 HK3 HK4 ⊢
      by_cases hcp1 : cp = 1
      · subst hcp1
        obtain rfl : np = 1 := by omega
        go_wp2
        go_ret2
        have hb3 : (Blk (((w3.setCell ⟨p, 0, none⟩ (.slice (some ⟨gp, op, none⟩) 0 0)).setCell ⟨p, 1, none⟩ (.int .i64 ((s.gv : Int) + (n : Int)))).setCell ⟨p, 2, none⟩ (.int .i64 (lm : Int))) p 49 #[.slice (some ⟨gp, op, none⟩) 0 0, .int .i64 ((s.gv : Int) + (n : Int)), .int .i64 (lm : Int), .int .i64 s.fl]) := by
          have := ((HK1.out.set_ 0 (.slice (some ⟨gp, op, none⟩) 0 0)).set_ 1 (.int .i64 ((s.gv : Int) + (n : Int)))).set_ 2 (.int .i64 (lm : Int))
          simpa using this
        have HB3 := Lib.hid hb3
        clear hb3
        have HO3 : Hid (Only (fun k => k = p) w3 (((w3.setCell ⟨p, 0, none⟩ (.slice (some ⟨gp, op, none⟩) 0 0)).setCell ⟨p, 1, none⟩ (.int .i64 ((s.gv : Int) + (n : Int)))).setCell ⟨p, 2, none⟩ (.int .i64 (lm : Int)))) :=
          (((Only.refl (fun k => k = p) w3).setCell (p := ⟨p, 0, none⟩) (fun _ => rfl) _).setCell (p := ⟨p, 1, none⟩) (fun _ => rfl) _).setCell (p := ⟨p, 2, none⟩) (fun _ => rfl) _
        generalize ((w3.setCell ⟨p, 0, none⟩ (.slice (some ⟨gp, op, none⟩) 0 0)).setCell ⟨p, 1, none⟩ (.int .i64 ((s.gv : Int) + (n : Int)))).setCell ⟨p, 2, none⟩ (.int .i64 (lm : Int)) = W at *
        have ht : Own w3 22 1 (.slice (some ⟨gp, op, none⟩) 0 0) 0 vs' := by
          have := HK3.out.tail_ 1 (by omega)
          simpa using this
        refine ⟨_, rfl, HK6.out.only HO3.out (fun k hk e => own_ne_blk HK6.out HK1.out (by decide) (by rw [hk, e])), HNB.out, HK7.out.trans HO3.out (fun k _ e => by rw [e]; exact HSP.out), ?_⟩
        have e5 : ((s.gv : Int) + (n : Int)) = ((s.gv + n : Nat) : Int) := by omega
        have hb := HB3.out
        rw [e5] at hb
        refine ⟨.slice (some ⟨gp, op, none⟩) 0 0, vs', ?_⟩
        unfold nxS
        rw [if_pos HQ.out.symm, HLM.out]
        refine rep_fin HK1.out HO3.out hb (by have e := HNP.out; have e2 : rest.length = 0 := (by omega); rw [e2]; exact ht) HK5.out HSP.out (fun k hk => ?_) HLT.out HK7.out.size
        have e9 : gp = k := by simpa [Value.ownBlock] using hk
        rw [← e9]; exact HSG.out
      · skip
        go_wp2
        go_ret2
        have hb3 : (Blk (((w3.setCell ⟨p, 0, none⟩ (.slice (some ⟨gp, op + 1, none⟩) (np - 1) (cp - 1))).setCell ⟨p, 1, none⟩ (.int .i64 ((s.gv : Int) + (n : Int)))).setCell ⟨p, 2, none⟩ (.int .i64 (lm : Int))) p 49 #[.slice (some ⟨gp, op + 1, none⟩) (np - 1) (cp - 1), .int .i64 ((s.gv : Int) + (n : Int)), .int .i64 (lm : Int), .int .i64 s.fl]) := by
          have := ((HK1.out.set_ 0 (.slice (some ⟨gp, op + 1, none⟩) (np - 1) (cp - 1))).set_ 1 (.int .i64 ((s.gv : Int) + (n : Int)))).set_ 2 (.int .i64 (lm : Int))
          simpa using this
        have HB3 := Lib.hid hb3
        clear hb3
        have HO3 : Hid (Only (fun k => k = p) w3 (((w3.setCell ⟨p, 0, none⟩ (.slice (some ⟨gp, op + 1, none⟩) (np - 1) (cp - 1))).setCell ⟨p, 1, none⟩ (.int .i64 ((s.gv : Int) + (n : Int)))).setCell ⟨p, 2, none⟩ (.int .i64 (lm : Int)))) :=
          (((Only.refl (fun k => k = p) w3).setCell (p := ⟨p, 0, none⟩) (fun _ => rfl) _).setCell (p := ⟨p, 1, none⟩) (fun _ => rfl) _).setCell (p := ⟨p, 2, none⟩) (fun _ => rfl) _
        generalize ((w3.setCell ⟨p, 0, none⟩ (.slice (some ⟨gp, op + 1, none⟩) (np - 1) (cp - 1))).setCell ⟨p, 1, none⟩ (.int .i64 ((s.gv : Int) + (n : Int)))).setCell ⟨p, 2, none⟩ (.int .i64 (lm : Int)) = W at *
        have ht : Own w3 22 1 (.slice (some ⟨gp, op + 1, none⟩) (np - 1) (cp - 1)) (np - 1) vs' := by
          have := HK3.out.tail_ 1 (by omega)
          simpa [hcp1] using this
        refine ⟨_, rfl, HK6.out.only HO3.out (fun k hk e => own_ne_blk HK6.out HK1.out (by decide) (by rw [hk, e])), HNB.out, HK7.out.trans HO3.out (fun k _ e => by rw [e]; exact HSP.out), ?_⟩
        have e5 : ((s.gv : Int) + (n : Int)) = ((s.gv + n : Nat) : Int) := by omega
        have hb := HB3.out
        rw [e5] at hb
        refine ⟨.slice (some ⟨gp, op + 1, none⟩) (np - 1) (cp - 1), vs', ?_⟩
        unfold nxS
        rw [if_pos HQ.out.symm, HLM.out]
        refine rep_fin HK1.out HO3.out hb (by have e := HNP.out; have e2 : rest.length = np - 1 := (by omega); rw [e2]; exact ht) HK5.out HSP.out (fun k hk => ?_) HLT.out HK7.out.size
        have e9 : gp = k := by simpa [Value.ownBlock] using hk
        rw [← e9]; exact HSG.out
    · have hnz : (((n0 - n : Nat) : Int) == 0) = false := by rw [beq_eq_false_iff_ne]; omega
      generalize hnl : n0 - n = nl at *
      have HNL := Lib.hid hnl
      clear hnl
      go_wp2
      go_ret2
      have hb3 : (Blk ((w3.setCell ⟨p, 1, none⟩ (.int .i64 ((s.gv : Int) + (n : Int)))).setCell ⟨p, 2, none⟩ (.int .i64 (lm : Int))) p 49 #[.slice (some ⟨gp, op, none⟩) np cp, .int .i64 ((s.gv : Int) + (n : Int)), .int .i64 (lm : Int), .int .i64 s.fl]) := by
        have := (HK1.out.set_ 1 (.int .i64 ((s.gv : Int) + (n : Int)))).set_ 2 (.int .i64 (lm : Int))
        simpa using this
      have HB3 := Lib.hid hb3
      clear hb3
      have HO3 : Hid (Only (fun k => k = p) w3 ((w3.setCell ⟨p, 1, none⟩ (.int .i64 ((s.gv : Int) + (n : Int)))).setCell ⟨p, 2, none⟩ (.int .i64 (lm : Int)))) :=
        ((Only.refl (fun k => k = p) w3).setCell (p := ⟨p, 1, none⟩) (fun _ => rfl) _).setCell (p := ⟨p, 2, none⟩) (fun _ => rfl) _
      generalize (w3.setCell ⟨p, 1, none⟩ (.int .i64 ((s.gv : Int) + (n : Int)))).setCell ⟨p, 2, none⟩ (.int .i64 (lm : Int)) = W at *
      refine ⟨_, rfl, HK6.out.only HO3.out (fun k hk e => own_ne_blk HK6.out HK1.out (by decide) (by rw [hk, e])), HNB.out, HK7.out.trans HO3.out (fun k _ e => by rw [e]; exact HSP.out), ?_⟩
      have e5 : ((s.gv : Int) + (n : Int)) = ((s.gv + n : Nat) : Int) := by omega
      have hb := HB3.out
      rw [e5] at hb
      refine ⟨.slice (some ⟨gp, op, none⟩) np cp, .slice A0 nl cz :: vs', ?_⟩
      unfold nxS
      rw [if_neg (by rw [HQ.out]; exact hnn), HLM.out]
      refine rep_fin HK1.out HO3.out hb (by have e := HNP.out; have e2 : (q.drop n :: rest).length = np := (by rw [List.length_cons]; omega); rw [e2]; exact HK3.out) (fun i r hi => ?_) HSP.out (fun k hk => ?_) HLT.out HK7.out.size
      · cases i with
        | zero =>
          obtain rfl : q.drop n = r := by simpa using hi
          refine ⟨_, rfl, ?_, HSA.out⟩
          have hl : (q.drop n).length = nl := by rw [List.length_drop, HQ.out, HNL.out]
          rw [hl]; exact HK4.out
        | succ i => exact HK5.out i r (by simpa using hi)
      · have e9 : gp = k := by simpa [Value.ownBlock] using hk
        rw [← e9]; exact HSG.out
  · rw [if_neg hf] at hnd
    have b1 : decide (0 ≤ s.fl) = false := by simpa using hf
    have e1 : min (m : Int) (n0 : Int) = (n : Int) := by omega
    have hn1 : 1 ≤ n ∧ n ≤ n0 := by omega
    clear h1 hnd
    go_enter Try.func9, Try.ntmps9
    go_wp2
    go_quiet (fail)
    have HBW : Hid (Below w.heap.size w (w.drewN nq)) := below_drewN (Below.refl _ _) nq
    have f0 : (w.drewN nq).cell? ⟨p, 0, none⟩ = _ := c0'
    have f1 : (w.drewN nq).cell? ⟨p, 1, none⟩ = _ := c1
    have f2 : (w.drewN nq).cell? ⟨p, 2, none⟩ = _ := c2
    have f3 : (w.drewN nq).cell? ⟨p, 3, none⟩ = _ := c3
    have fp : (w.drewN nq).cell? ⟨gp, op, none⟩ = _ := cgp
    clear c0' c1 c2 c3 cgp
    generalize w.drewN nq = wa at *
    have HBW0 := HBW
    have HCL : Hid (∀ W, Below w.heap.size w W → Calls Try.prog 20 #[.slice (some ⟨g0, o0, none⟩) n c0] W (RetNewB W (q.take n))) := fun W hW => by
      have h1 := (HO.out.below hW fun _ hk => HO.out.lt hk).rd.take_ (k := n) (by omega)
      rw [Nat.mul_one, ← List.map_take] at h1
      exact clone_some g0 o0 n c0 _ _ W h1 (by omega) (Nat.le_refl _)
    have htl : (q.take n).length = n := by rw [List.length_take, HQ.out]; omega
    have HTL := Lib.hid htl
    clear htl
    go_wp2_with (go_at_call 20; refine (HCL.out _ HBW.out).mono ?_; rintro e2 w2 ⟨v2, rfl, hn2, hb2, hk2⟩; rw [HTL.out] at hn2; obtain ⟨A2, c2, rfl, -, -⟩ := hn2.len_; have HN2 := Lib.hid hn2; have HB2 := Lib.hid hb2; have HK2 := Lib.hid hk2; clear hn2 hb2 hk2)
    have HBX : Hid (Below w.heap.size w w2) := HBW.out.trans (HB2.out.mono HBW.out.size)
    have HR2 : Hid (RepA w2 S p (.slice (some ⟨gp, op, none⟩) np cp) (.slice (some ⟨g0, o0, none⟩) n0 c0 :: vs') s) := HH.out.frame (Only.of_below HBX.out) (fun k hk => by have := HH.out.lt k hk; omega)
    have d0 : w2.drew.cell? ⟨p, 0, none⟩ = some (.slice (some ⟨gp, op, none⟩) np cp) := HR2.out.c0
    have dp : w2.drew.cell? ⟨gp, op, none⟩ = some (.slice (some ⟨g0, o0, none⟩) n0 c0) := (HBX.out.cell (p := ⟨gp, op, none⟩) (HH.out.lt gp HSG.out)).trans HCP.out
    have df : ∀ j, w2.drew.frozen? ⟨gp, j, none⟩ = false := fun j => (HBX.out.frozen (p := ⟨gp, j, none⟩) (HH.out.lt gp HSG.out)).trans (HFR.out j)
    clear HBW HCL
    refine region_objs (by kernel_rfl) (fun _ _ => True)
      [.val (.pointer (some ⟨p, 0, none⟩)),
       .val (.pointer (some ⟨p, 0, none⟩)),
       .val (.pointer (some ⟨p, 0, none⟩)),
       .val (.slice (some ⟨gp, op, none⟩) np cp),
       .val (.pointer (some ⟨p, 0, none⟩)),
       .val (.pointer (some ⟨p, 0, none⟩)),
       .val (.pointer (some ⟨p, 0, none⟩)),
       .val (.slice (some ⟨gp, op, none⟩) np cp),
       .val (.pointer (some ⟨gp, op, none⟩)),
       .val (.slice (some ⟨g0, o0, none⟩) n0 c0),
       .val (.int .i64 (n : Int)),
       .val (.slice (if c0 = n then some ⟨g0, o0, none⟩ else some ⟨g0, o0 + n, none⟩) (n0 - n) (c0 - n)),
       .val (.pointer (some ⟨gp, op, none⟩)),
       .any]
      (⟨13, fun W => W = w2.drew, fun W => W = w2.drew.setCell ⟨gp, op, none⟩ (.slice (if c0 = n then some ⟨g0, o0, none⟩ else some ⟨g0, o0 + n, none⟩) (n0 - n) (c0 - n))⟩) (⟨13, fun _ => True, fun _ => True⟩) (fun _ => trivial) (fun _ _ _ _ _ => trivial) (by kernel_rfl) (rfl) (trivial) ⟨Nat.le_of_ble_eq_true rfl, Nat.le_of_ble_eq_true rfl⟩ ?_ ?_
    · refine ⟨?_, ?_, ?_, ?_, ?_, ?_, ?_, ?_, ?_, ?_, ?_, ?_, ?_, ?_, trivial⟩
      · intro ra RW hR hsA hsB hk hd K hK
        have SA := Lib.hid hsA
        have SB := Lib.hid hsB
        clear hsA hsB
        have hw : RW = w2.drew := SA.out.early (by kernel_rfl)
        subst hw
        obtain ⟨e0, g0⟩ := hk 0 (.pointer (some ⟨p, 0, none⟩)) (by kernel_rfl) rfl
        clear hk hd
        have HR := Lib.hid hR
        clear hR
        go_simp
        exact hK _ _ (trivial) rfl (SA.out.same (Nat.ne_of_beq_eq_false rfl)) (SB.out.same (Nat.ne_of_beq_eq_false rfl))
      · intro ra RW hR hsA hsB hk hd K hK
        have SA := Lib.hid hsA
        have SB := Lib.hid hsB
        clear hsA hsB
        have hw : RW = w2.drew := SA.out.early (by kernel_rfl)
        subst hw
        obtain ⟨v68, e68, g68, f68⟩ := hd 0 68 (by kernel_rfl) rfl
        have f68 : v68 = .pointer (some ⟨p, 0, none⟩) := f68
        subst f68
        clear hk hd
        have HR := Lib.hid hR
        clear hR
        go_simp
        exact hK _ _ (trivial) rfl (SA.out.same (Nat.ne_of_beq_eq_false rfl)) (SB.out.same (Nat.ne_of_beq_eq_false rfl))
      · intro ra RW hR hsA hsB hk hd K hK
        have SA := Lib.hid hsA
        have SB := Lib.hid hsB
        clear hsA hsB
        have hw : RW = w2.drew := SA.out.early (by kernel_rfl)
        subst hw
        obtain ⟨v69, e69, g69, f69⟩ := hd 1 69 (by kernel_rfl) rfl
        have f69 : v69 = .pointer (some ⟨p, 0, none⟩) := f69
        subst f69
        clear hk hd
        have HR := Lib.hid hR
        clear hR
        go_simp
        exact hK _ _ (trivial) rfl (SA.out.same (Nat.ne_of_beq_eq_false rfl)) (SB.out.same (Nat.ne_of_beq_eq_false rfl))
      · intro ra RW hR hsA hsB hk hd K hK
        have SA := Lib.hid hsA
        have SB := Lib.hid hsB
        clear hsA hsB
        have hw : RW = w2.drew := SA.out.early (by kernel_rfl)
        subst hw
        obtain ⟨v70, e70, g70, f70⟩ := hd 2 70 (by kernel_rfl) rfl
        have f70 : v70 = .pointer (some ⟨p, 0, none⟩) := f70
        subst f70
        clear hk hd
        have HR := Lib.hid hR
        clear hR
        go_simp
        exact hK _ _ (trivial) rfl (SA.out.same (Nat.ne_of_beq_eq_false rfl)) (SB.out.same (Nat.ne_of_beq_eq_false rfl))
      · intro ra RW hR hsA hsB hk hd K hK
        have SA := Lib.hid hsA
        have SB := Lib.hid hsB
        clear hsA hsB
        have hw : RW = w2.drew := SA.out.early (by kernel_rfl)
        subst hw
        obtain ⟨e0, g0⟩ := hk 0 (.pointer (some ⟨p, 0, none⟩)) (by kernel_rfl) rfl
        clear hk hd
        have HR := Lib.hid hR
        clear hR
        go_simp
        exact hK _ _ (trivial) rfl (SA.out.same (Nat.ne_of_beq_eq_false rfl)) (SB.out.same (Nat.ne_of_beq_eq_false rfl))
      · intro ra RW hR hsA hsB hk hd K hK
        have SA := Lib.hid hsA
        have SB := Lib.hid hsB
        clear hsA hsB
        have hw : RW = w2.drew := SA.out.early (by kernel_rfl)
        subst hw
        obtain ⟨v72, e72, g72, f72⟩ := hd 4 72 (by kernel_rfl) rfl
        have f72 : v72 = .pointer (some ⟨p, 0, none⟩) := f72
        subst f72
        clear hk hd
        have HR := Lib.hid hR
        clear hR
        go_simp
        exact hK _ _ (trivial) rfl (SA.out.same (Nat.ne_of_beq_eq_false rfl)) (SB.out.same (Nat.ne_of_beq_eq_false rfl))
      · intro ra RW hR hsA hsB hk hd K hK
        have SA := Lib.hid hsA
        have SB := Lib.hid hsB
        clear hsA hsB
        have hw : RW = w2.drew := SA.out.early (by kernel_rfl)
        subst hw
        obtain ⟨v73, e73, g73, f73⟩ := hd 5 73 (by kernel_rfl) rfl
        have f73 : v73 = .pointer (some ⟨p, 0, none⟩) := f73
        subst f73
        clear hk hd
        have HR := Lib.hid hR
        clear hR
        go_simp
        exact hK _ _ (trivial) rfl (SA.out.same (Nat.ne_of_beq_eq_false rfl)) (SB.out.same (Nat.ne_of_beq_eq_false rfl))
      · intro ra RW hR hsA hsB hk hd K hK
        have SA := Lib.hid hsA
        have SB := Lib.hid hsB
        clear hsA hsB
        have hw : RW = w2.drew := SA.out.early (by kernel_rfl)
        subst hw
        obtain ⟨v74, e74, g74, f74⟩ := hd 6 74 (by kernel_rfl) rfl
        have f74 : v74 = .pointer (some ⟨p, 0, none⟩) := f74
        subst f74
        clear hk hd
        have HR := Lib.hid hR
        clear hR
        go_simp
        exact hK _ _ (trivial) rfl (SA.out.same (Nat.ne_of_beq_eq_false rfl)) (SB.out.same (Nat.ne_of_beq_eq_false rfl))
      · intro ra RW hR hsA hsB hk hd K hK
        have SA := Lib.hid hsA
        have SB := Lib.hid hsB
        clear hsA hsB
        have hw : RW = w2.drew := SA.out.early (by kernel_rfl)
        subst hw
        obtain ⟨v75, e75, g75, f75⟩ := hd 7 75 (by kernel_rfl) rfl
        have f75 : v75 = .slice (some ⟨gp, op, none⟩) np cp := f75
        subst f75
        clear hk hd
        have HR := Lib.hid hR
        clear hR
        go_simp
        exact hK _ _ (trivial) rfl (SA.out.same (Nat.ne_of_beq_eq_false rfl)) (SB.out.same (Nat.ne_of_beq_eq_false rfl))
      · intro ra RW hR hsA hsB hk hd K hK
        have SA := Lib.hid hsA
        have SB := Lib.hid hsB
        clear hsA hsB
        have hw : RW = w2.drew := SA.out.early (by kernel_rfl)
        subst hw
        obtain ⟨v76, e76, g76, f76⟩ := hd 8 76 (by kernel_rfl) rfl
        have f76 : v76 = .pointer (some ⟨gp, op, none⟩) := f76
        subst f76
        clear hk hd
        have HR := Lib.hid hR
        clear hR
        go_simp
        exact hK _ _ (trivial) rfl (SA.out.same (Nat.ne_of_beq_eq_false rfl)) (SB.out.same (Nat.ne_of_beq_eq_false rfl))
      · intro ra RW hR hsA hsB hk hd K hK
        have SA := Lib.hid hsA
        have SB := Lib.hid hsB
        clear hsA hsB
        have hw : RW = w2.drew := SA.out.early (by kernel_rfl)
        subst hw
        obtain ⟨e6, g6⟩ := hk 6 (.int .i64 (n : Int)) (by kernel_rfl) rfl
        clear hk hd
        have HR := Lib.hid hR
        clear hR
        go_simp
        exact hK _ _ (trivial) rfl (SA.out.same (Nat.ne_of_beq_eq_false rfl)) (SB.out.same (Nat.ne_of_beq_eq_false rfl))
      · intro ra RW hR hsA hsB hk hd K hK
        have SA := Lib.hid hsA
        have SB := Lib.hid hsB
        clear hsA hsB
        have hw : RW = w2.drew := SA.out.early (by kernel_rfl)
        subst hw
        obtain ⟨v77, e77, g77, f77⟩ := hd 9 77 (by kernel_rfl) rfl
        have f77 : v77 = .slice (some ⟨g0, o0, none⟩) n0 c0 := f77
        subst f77
        obtain ⟨v78, e78, g78, f78⟩ := hd 10 78 (by kernel_rfl) rfl
        have f78 : v78 = .int .i64 (n : Int) := f78
        subst f78
        clear hk hd
        have HR := Lib.hid hR
        clear hR
        go_simp
        exact hK _ _ (trivial) rfl (SA.out.same (Nat.ne_of_beq_eq_false rfl)) (SB.out.same (Nat.ne_of_beq_eq_false rfl))
      · intro ra RW hR hsA hsB hk hd K hK
        have SA := Lib.hid hsA
        have SB := Lib.hid hsB
        clear hsA hsB
        have hw : RW = w2.drew := SA.out.early (by kernel_rfl)
        subst hw
        obtain ⟨v71, e71, g71, f71⟩ := hd 3 71 (by kernel_rfl) rfl
        have f71 : v71 = .slice (some ⟨gp, op, none⟩) np cp := f71
        subst f71
        clear hk hd
        have HR := Lib.hid hR
        clear hR
        go_simp
        exact hK _ _ (trivial) rfl (SA.out.same (Nat.ne_of_beq_eq_false rfl)) (SB.out.same (Nat.ne_of_beq_eq_false rfl))
      · intro ra RW hR hsA hsB hk hd K hK
        have SA := Lib.hid hsA
        have SB := Lib.hid hsB
        clear hsA hsB
        have hw : RW = w2.drew := SA.out.self rfl
        subst hw
        obtain ⟨v80, e80, g80, f80⟩ := hd 12 80 (by kernel_rfl) rfl
        have f80 : v80 = .pointer (some ⟨gp, op, none⟩) := f80
        subst f80
        obtain ⟨v79, e79, g79, f79⟩ := hd 11 79 (by kernel_rfl) rfl
        have f79 : v79 = .slice (if c0 = n then some ⟨g0, o0, none⟩ else some ⟨g0, o0 + n, none⟩) (n0 - n) (c0 - n) := f79
        subst f79
        clear hk hd
        have HR := Lib.hid hR
        clear hR
        go_simp
        exact hK undef _ trivial trivial (SideOut.self rfl rfl) (SideOut.self rfl trivial)
    intro vs RW hR hpA hpB hF
    have q0 : vs 0 = .pointer (some ⟨p, 0, none⟩) := hF 0 (by decide)
    have q1 : vs 1 = .pointer (some ⟨p, 0, none⟩) := hF 1 (by decide)
    have q2 : vs 2 = .pointer (some ⟨p, 0, none⟩) := hF 2 (by decide)
    have q3 : vs 3 = .slice (some ⟨gp, op, none⟩) np cp := hF 3 (by decide)
    have q4 : vs 4 = .pointer (some ⟨p, 0, none⟩) := hF 4 (by decide)
    have q5 : vs 5 = .pointer (some ⟨p, 0, none⟩) := hF 5 (by decide)
    have q6 : vs 6 = .pointer (some ⟨p, 0, none⟩) := hF 6 (by decide)
    have q7 : vs 7 = .slice (some ⟨gp, op, none⟩) np cp := hF 7 (by decide)
    have q8 : vs 8 = .pointer (some ⟨gp, op, none⟩) := hF 8 (by decide)
    have q9 : vs 9 = .slice (some ⟨g0, o0, none⟩) n0 c0 := hF 9 (by decide)
    have q10 : vs 10 = .int .i64 (n : Int) := hF 10 (by decide)
    have q11 : vs 11 = .slice (if c0 = n then some ⟨g0, o0, none⟩ else some ⟨g0, o0 + n, none⟩) (n0 - n) (c0 - n) := hF 11 (by decide)
    have q12 : vs 12 = .pointer (some ⟨gp, op, none⟩) := hF 12 (by decide)
    simp only [setAll, List.setIfInBounds_toArray, List.set_cons_zero, List.set_cons_succ, q0, q1, q2, q3, q4, q5, q6, q7, q8, q9, q10, q11, q12]
    clear hF q0 q1 q2 q3 q4 q5 q6 q7 q8 q9 q10 q11 q12
    clear vs
    subst hpA
    clear hpB hR d0 dp df
    have HK : Hid (∀ v0' : Value, v0' = .slice (if c0 = n then some ⟨g0, o0, none⟩ else some ⟨g0, o0 + n, none⟩) (n0 - n) (c0 - n) →
        Blk (w2.drew.setCell ⟨gp, op, none⟩ v0') p 49 #[.slice (some ⟨gp, op, none⟩) np cp, .int .i64 (s.gv : Int), .int .i64 (s.lf : Int), .int .i64 s.fl] ∧
        (w2.drew.setCell ⟨gp, op, none⟩ v0').cell? ⟨gp, op, none⟩ = some v0' ∧
        Own (w2.drew.setCell ⟨gp, op, none⟩ v0') 22 1 (.slice (some ⟨gp, op, none⟩) np cp) np (v0' :: vs') ∧
        Own (w2.drew.setCell ⟨gp, op, none⟩ v0') 5 1 v0' (n0 - n) ((q.drop n).map bV) ∧
        (∀ (i : Nat) (r : List UInt8), rest[i]? = some r → ∃ v, vs'[i]? = some v ∧ Own (w2.drew.setCell ⟨gp, op, none⟩ v0') 5 1 v r.length (r.map bV) ∧ ∀ k, v.ownBlock = some k → S k) ∧
        Own (w2.drew.setCell ⟨gp, op, none⟩ v0') 5 1 (.slice A2 n c2) n ((q.take n).map bV) ∧ Only S w (w2.drew.setCell ⟨gp, op, none⟩ v0')) := by
      intro v0' hv
      have hr := HR2.out
      have hpo : Own w2.drew 22 1 (.slice (some ⟨gp, op, none⟩) np cp) np (.slice (some ⟨g0, o0, none⟩) n0 c0 :: vs') := by
        have := hr.po
        rw [HPL.out] at this
        exact this
      have hgp : gp ≠ p := fun e => own_ne_blk hpo hr.tb (by decide) (by rw [← e]; rfl)
      have hO2 : Own w2.drew 5 1 (.slice (some ⟨g0, o0, none⟩) n0 c0) n0 (q.map bV) := HO.out.below (w' := w2.drew) ⟨HBX.out.os, HBX.out.tape, HBX.out.output, HBX.out.size, HBX.out.block⟩ fun _ hk => HO.out.lt hk
      have hnb : ∀ (u : Value) (r : List UInt8), Own w2.drew 5 1 u r.length (r.map bV) → u.ownBlock ≠ some gp := fun u r hu e => own_ne hu hpo (by decide) gp e rfl
      have hst := hpo.store 0 (by rw [HNP.out]; omega) v0'
      simp only [Nat.add_zero, List.set_cons_zero] at hst
      refine ⟨Blk.far (w := w2.drew) (p := ⟨gp, op, none⟩) hr.tb (Ne.symm hgp) _, ?_, hst, ?_, ?_, ?_, ?_⟩
      · obtain ⟨g', o', c', hv', _, _, _, hc, _⟩ := hst.form (by rw [HNP.out]; omega)
        simp only [Value.slice.injEq, Option.some.injEq, Addr.mk.injEq, true_and, and_true] at hv'
        obtain ⟨⟨rfl, rfl⟩, rfl⟩ := hv'
        have := hc 0 (by rw [HNP.out]; omega)
        simpa using this
      · have h1 := hO2.tail_ n (by omega)
        rw [Nat.mul_one, ← List.map_drop] at h1
        rw [apply_ite some] at h1
        rw [← hv] at h1
        exact h1.setCell (p := ⟨gp, op, none⟩) (fun e => own_ne h1 hpo (by decide) gp e rfl) _
      · intro i r hi
        obtain ⟨v, h1, h2, h3⟩ := hr.pc (i + 1) r (by rw [HPS.out]; exact hi)
        exact ⟨v, by simpa using h1, Own.setCell (w := w2.drew) (p := ⟨gp, op, none⟩) h2 (hnb v r h2) _, h3⟩
      · exact Own.setCell (w := w2.drew) (p := ⟨gp, op, none⟩) HN2.out (fun e => own_ne (w := w2.drew) HN2.out hpo (by decide) gp e rfl) _
      · refine Only.setCell (p := ⟨gp, op, none⟩) ?_ (fun _ => HSG.out) _
        exact (Only.of_below (w' := w2.drew) ⟨HBX.out.os, HBX.out.tape, HBX.out.output, HBX.out.size, HBX.out.block⟩).mono (fun k hk hk2 => by omega)
    have HLT : Hid (∀ k, S k → k < w.heap.size) := HH.out.lt
    have HNB : Hid (∀ k, (Value.slice A2 n c2).ownBlock = some k → w.heap.size ≤ k) := fun k hk => Nat.le_trans HBW0.out.size (HK2.out k hk)
    have HSP : Hid (S p) := HH.out.sp
    obtain ⟨k1, k2, k3, k4, k5, k6, k7⟩ := HK.out _ rfl
    clear HK
    have HSA : Hid (∀ k, (Value.slice (if c0 = n then some (⟨g0, o0, none⟩ : Addr) else some ⟨g0, o0 + n, none⟩) (n0 - n) (c0 - n)).ownBlock = some k → S k) := fun k hk => by
      have : g0 = k := by split at hk <;> simpa [Value.ownBlock] using hk
      rw [← this]; exact HSG0.out
    generalize (if c0 = n then some (⟨g0, o0, none⟩ : Addr) else some ⟨g0, o0 + n, none⟩) = A0 at *
    generalize c0 - n = cz at *
    generalize w2.drew.setCell ⟨gp, op, none⟩ (.slice A0 (n0 - n) cz) = w3 at *
    have l0 : w3.cell? ⟨p, 0, none⟩ = some (.slice (some ⟨gp, op, none⟩) np cp) := by rw [k1.cell]; rfl
    have l1 : w3.cell? ⟨p, 1, none⟩ = some (.int .i64 (s.gv : Int)) := by rw [k1.cell]; rfl
    have l2 : w3.cell? ⟨p, 2, none⟩ = some (.int .i64 (s.lf : Int)) := by rw [k1.cell]; rfl
    have l3 := k1.frozen
    have HK1 := Lib.hid k1; have HK3 := Lib.hid k3; have HK4 := Lib.hid k4; have HK5 := Lib.hid k5; have HK6 := Lib.hid k6; have HK7 := Lib.hid k7
    clear k1 k3 k4 k5 k6 k7
    have hsub : (s.lf : Int) - (n : Int) = ((s.lf - n : Nat) : Int) := by omega
    generalize hlm : s.lf - n = lm at *
    have HLM := Lib.hid hlm
    clear hlm
    by_cases hnn : n = n0
    · subst hnn
      simp only [Nat.sub_self] at k2 HK3 HK4 ⊢
      by_cases hcp1 : cp = 1
      · subst hcp1
        obtain rfl : np = 1 := by omega
        go_wp2
        go_ret2
        have hb3 : (Blk (((w3.setCell ⟨p, 0, none⟩ (.slice (some ⟨gp, op, none⟩) 0 0)).setCell ⟨p, 1, none⟩ (.int .i64 ((s.gv : Int) + (n : Int)))).setCell ⟨p, 2, none⟩ (.int .i64 (lm : Int))) p 49 #[.slice (some ⟨gp, op, none⟩) 0 0, .int .i64 ((s.gv : Int) + (n : Int)), .int .i64 (lm : Int), .int .i64 s.fl]) := by
          have := ((HK1.out.set_ 0 (.slice (some ⟨gp, op, none⟩) 0 0)).set_ 1 (.int .i64 ((s.gv : Int) + (n : Int)))).set_ 2 (.int .i64 (lm : Int))
          simpa using this
        have HB3 := Lib.hid hb3
        clear hb3
        have HO3 : Hid (Only (fun k => k = p) w3 (((w3.setCell ⟨p, 0, none⟩ (.slice (some ⟨gp, op, none⟩) 0 0)).setCell ⟨p, 1, none⟩ (.int .i64 ((s.gv : Int) + (n : Int)))).setCell ⟨p, 2, none⟩ (.int .i64 (lm : Int)))) :=
          (((Only.refl (fun k => k = p) w3).setCell (p := ⟨p, 0, none⟩) (fun _ => rfl) _).setCell (p := ⟨p, 1, none⟩) (fun _ => rfl) _).setCell (p := ⟨p, 2, none⟩) (fun _ => rfl) _
        generalize ((w3.setCell ⟨p, 0, none⟩ (.slice (some ⟨gp, op, none⟩) 0 0)).setCell ⟨p, 1, none⟩ (.int .i64 ((s.gv : Int) + (n : Int)))).setCell ⟨p, 2, none⟩ (.int .i64 (lm : Int)) = W at *
        have ht : Own w3 22 1 (.slice (some ⟨gp, op, none⟩) 0 0) 0 vs' := by
          have := HK3.out.tail_ 1 (by omega)
          simpa using this
        refine ⟨_, rfl, HK6.out.only HO3.out (fun k hk e => own_ne_blk HK6.out HK1.out (by decide) (by rw [hk, e])), HNB.out, HK7.out.trans HO3.out (fun k _ e => by rw [e]; exact HSP.out), ?_⟩
        have e5 : ((s.gv : Int) + (n : Int)) = ((s.gv + n : Nat) : Int) := by omega
        have hb := HB3.out
        rw [e5] at hb
        refine ⟨.slice (some ⟨gp, op, none⟩) 0 0, vs', ?_⟩
        unfold nxS
        rw [if_pos HQ.out.symm, HLM.out]
        refine rep_fin HK1.out HO3.out hb (by have e := HNP.out; have e2 : rest.length = 0 := (by omega); rw [e2]; exact ht) HK5.out HSP.out (fun k hk => ?_) HLT.out HK7.out.size
        have e9 : gp = k := by simpa [Value.ownBlock] using hk
        rw [← e9]; exact HSG.out
      · skip
        go_wp2
        go_ret2
        have hb3 : (Blk (((w3.setCell ⟨p, 0, none⟩ (.slice (some ⟨gp, op + 1, none⟩) (np - 1) (cp - 1))).setCell ⟨p, 1, none⟩ (.int .i64 ((s.gv : Int) + (n : Int)))).setCell ⟨p, 2, none⟩ (.int .i64 (lm : Int))) p 49 #[.slice (some ⟨gp, op + 1, none⟩) (np - 1) (cp - 1), .int .i64 ((s.gv : Int) + (n : Int)), .int .i64 (lm : Int), .int .i64 s.fl]) := by
          have := ((HK1.out.set_ 0 (.slice (some ⟨gp, op + 1, none⟩) (np - 1) (cp - 1))).set_ 1 (.int .i64 ((s.gv : Int) + (n : Int)))).set_ 2 (.int .i64 (lm : Int))
          simpa using this
        have HB3 := Lib.hid hb3
        clear hb3
        have HO3 : Hid (Only (fun k => k = p) w3 (((w3.setCell ⟨p, 0, none⟩ (.slice (some ⟨gp, op + 1, none⟩) (np - 1) (cp - 1))).setCell ⟨p, 1, none⟩ (.int .i64 ((s.gv : Int) + (n : Int)))).setCell ⟨p, 2, none⟩ (.int .i64 (lm : Int)))) :=
          (((Only.refl (fun k => k = p) w3).setCell (p := ⟨p, 0, none⟩) (fun _ => rfl) _).setCell (p := ⟨p, 1, none⟩) (fun _ => rfl) _).setCell (p := ⟨p, 2, none⟩) (fun _ => rfl) _
        generalize ((w3.setCell ⟨p, 0, none⟩ (.slice (some ⟨gp, op + 1, none⟩) (np - 1) (cp - 1))).setCell ⟨p, 1, none⟩ (.int .i64 ((s.gv : Int) + (n : Int)))).setCell ⟨p, 2, none⟩ (.int .i64 (lm : Int)) = W at *
        have ht : Own w3 22 1 (.slice (some ⟨gp, op + 1, none⟩) (np - 1) (cp - 1)) (np - 1) vs' := by
          have := HK3.out.tail_ 1 (by omega)
          simpa [hcp1] using this
        refine ⟨_, rfl, HK6.out.only HO3.out (fun k hk e => own_ne_blk HK6.out HK1.out (by decide) (by rw [hk, e])), HNB.out, HK7.out.trans HO3.out (fun k _ e => by rw [e]; exact HSP.out), ?_⟩
        have e5 : ((s.gv : Int) + (n : Int)) = ((s.gv + n : Nat) : Int) := by omega
        have hb := HB3.out
        rw [e5] at hb
        refine ⟨.slice (some ⟨gp, op + 1, none⟩) (np - 1) (cp - 1), vs', ?_⟩
        unfold nxS
        rw [if_pos HQ.out.symm, HLM.out]
        refine rep_fin HK1.out HO3.out hb (by have e := HNP.out; have e2 : rest.length = np - 1 := (by omega); rw [e2]; exact ht) HK5.out HSP.out (fun k hk => ?_) HLT.out HK7.out.size
        have e9 : gp = k := by simpa [Value.ownBlock] using hk
        rw [← e9]; exact HSG.out
    · have hnz : (((n0 - n : Nat) : Int) == 0) = false := by rw [beq_eq_false_iff_ne]; omega
      generalize hnl : n0 - n = nl at *
      have HNL := Lib.hid hnl
      clear hnl
      go_wp2
      go_ret2
      have hb3 : (Blk ((w3.setCell ⟨p, 1, none⟩ (.int .i64 ((s.gv : Int) + (n : Int)))).setCell ⟨p, 2, none⟩ (.int .i64 (lm : Int))) p 49 #[.slice (some ⟨gp, op, none⟩) np cp, .int .i64 ((s.gv : Int) + (n : Int)), .int .i64 (lm : Int), .int .i64 s.fl]) := by
        have := (HK1.out.set_ 1 (.int .i64 ((s.gv : Int) + (n : Int)))).set_ 2 (.int .i64 (lm : Int))
        simpa using this
      have HB3 := Lib.hid hb3
      clear hb3
      have HO3 : Hid (Only (fun k => k = p) w3 ((w3.setCell ⟨p, 1, none⟩ (.int .i64 ((s.gv : Int) + (n : Int)))).setCell ⟨p, 2, none⟩ (.int .i64 (lm : Int)))) :=
        ((Only.refl (fun k => k = p) w3).setCell (p := ⟨p, 1, none⟩) (fun _ => rfl) _).setCell (p := ⟨p, 2, none⟩) (fun _ => rfl) _
      generalize (w3.setCell ⟨p, 1, none⟩ (.int .i64 ((s.gv : Int) + (n : Int)))).setCell ⟨p, 2, none⟩ (.int .i64 (lm : Int)) = W at *
      refine ⟨_, rfl, HK6.out.only HO3.out (fun k hk e => own_ne_blk HK6.out HK1.out (by decide) (by rw [hk, e])), HNB.out, HK7.out.trans HO3.out (fun k _ e => by rw [e]; exact HSP.out), ?_⟩
      have e5 : ((s.gv : Int) + (n : Int)) = ((s.gv + n : Nat) : Int) := by omega
      have hb := HB3.out
      rw [e5] at hb
      refine ⟨.slice (some ⟨gp, op, none⟩) np cp, .slice A0 nl cz :: vs', ?_⟩
      unfold nxS
      rw [if_neg (by rw [HQ.out]; exact hnn), HLM.out]
      refine rep_fin HK1.out HO3.out hb (by have e := HNP.out; have e2 : (q.drop n :: rest).length = np := (by rw [List.length_cons]; omega); rw [e2]; exact HK3.out) (fun i r hi => ?_) HSP.out (fun k hk => ?_) HLT.out HK7.out.size
      · cases i with
        | zero =>
          obtain rfl : q.drop n = r := by simpa using hi
          refine ⟨_, rfl, ?_, HSA.out⟩
          have hl : (q.drop n).length = nl := by rw [List.length_drop, HQ.out, HNL.out]
          rw [hl]; exact HK4.out
        | succ i => exact HK5.out i r (by simpa using hi)
      · have e9 : gp = k := by simpa [Value.ownBlock] using hk
        rw [← e9]; exact HSG.out
end Go.Proofs.Ytnigmfjghapfgaa
