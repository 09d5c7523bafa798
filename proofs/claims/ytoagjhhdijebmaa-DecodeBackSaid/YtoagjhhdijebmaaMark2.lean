/-
  The contracts of order.Sure and of reedbedref02's functions Mark and Sure; no condition beyond those that each theorem states.
-/
import Derived.Test.YtoagjhhdijebmaaRefMark
namespace Go.Proofs.Ytoagjhhdijebmaa
open Go.RowKit Go.Rb
attribute [local irreducible] Go.wpQuiet

theorem prefB_iff (b m : List UInt8) : prefB b m = true ↔ m <+: b := by
  unfold prefB
  rw [decide_eq_true_iff, List.prefix_iff_eq_take]
  exact ⟨fun h => h.2.symm, fun h => ⟨by rw [h, List.length_take]; omega, h.symm⟩⟩
/-- Is it a beginning of a mark that isn't all of it? -/
def part1 (m b : List UInt8) : Bool := prefB m b && decide (b.length < m.length)
def openB (b : List UInt8) : Bool := part1 mk1 b || part1 mk2 b || part1 mk3 b
def sureB (b : List UInt8) : Bool := decide (0 < (markP b).2) || !openB b

set_option maxHeartbeats 1000000 in
theorem sure1_any (m b : List UInt8) (A A' : Option Addr) (n c n' c' B B' g : Nat) (w : World) (hm : Rd w B 1 A n (m.map bV)) (hc : n ≤ c) (hb : Rd w B' 1 A' n' (b.map bV)) (hg : w.cell? ⟨g, 0, none⟩ = some (.slice A' n' c')) :
    Calls Try.prog 44 #[.slice A n c, .pointer (some ⟨g, 0, none⟩)] w fun e w' => e = .returned (.bool (part1 m b)) ∧ w = w' := by
  have hl : m.length = n := by simpa using hm.1
  have hl' : b.length = n' := by simpa using hb.1
  have HP := Lib.hid (prefix_any m b A A' n c n' c' B B' w hm hc hb)
  unfold part1
  rw [hl, hl']
  clear hm hb
  cases hp : prefB m b with
  | true =>
    rw [hp] at HP
    go_enter Try.func44, Try.ntmps44
    go_wp2_with (go_at_call 45; refine HP.out.mono ?_; rintro e1 w1 ⟨rfl, rfl⟩)
    go_ret
    exact ⟨by simp, rfl⟩
  | false =>
    rw [hp] at HP
    go_enter Try.func44, Try.ntmps44
    go_wp2_with (go_at_call 45; refine HP.out.mono ?_; rintro e1 w1 ⟨rfl, rfl⟩)
    go_ret
    exact ⟨rfl, rfl⟩
def idx3 (p1 p2 p3 : Bool) : Int := if p1 then 1 else if p2 then 2 else if p3 then 3 else -1
set_option maxHeartbeats 4000000 in
theorem index3_any (p1 p2 p3 : Bool) (g1 g2 g3 g5 g : Nat) (w : World) (k0 : w.cell? ⟨g5, 0, none⟩ = some (.slice none 0 0)) (k1 : w.cell? ⟨g5, 1, none⟩ = some (.slice (some ⟨g1, 0, none⟩) 3 3)) (k2 : w.cell? ⟨g5, 2, none⟩ = some (.slice (some ⟨g2, 0, none⟩) 2 2)) (k3 : w.cell? ⟨g5, 3, none⟩ = some (.slice (some ⟨g3, 0, none⟩) 2 2))
    (h0 : Calls Try.prog 44 #[.slice none 0 0, .pointer (some ⟨g, 0, none⟩)] w fun e w' => e = .returned (.bool false) ∧ w = w')
    (h1 : Calls Try.prog 44 #[.slice (some ⟨g1, 0, none⟩) 3 3, .pointer (some ⟨g, 0, none⟩)] w fun e w' => e = .returned (.bool p1) ∧ w = w')
    (h2 : Calls Try.prog 44 #[.slice (some ⟨g2, 0, none⟩) 2 2, .pointer (some ⟨g, 0, none⟩)] w fun e w' => e = .returned (.bool p2) ∧ w = w')
    (h3 : Calls Try.prog 44 #[.slice (some ⟨g3, 0, none⟩) 2 2, .pointer (some ⟨g, 0, none⟩)] w fun e w' => e = .returned (.bool p3) ∧ w = w') :
    Calls Try.prog 50 #[.slice (some ⟨g5, 0, none⟩) 4 4, .func (.func 44) #[] #[.pointer (some ⟨g, 0, none⟩)]] w fun e w' => e = .returned (.int .i64 (idx3 p1 p2 p3)) ∧ w = w' := by
  have H0 := Lib.hid h0
  have H1 := Lib.hid h1
  have H2 := Lib.hid h2
  have H3 := Lib.hid h3
  clear h0 h1 h2 h3
  unfold idx3
  cases p1 with
  | true =>
    go_enter Try.func50, Try.ntmps50
    go_wp2_with fail
    refine wp_loop_rounds 5 ?_
    rw [rounds_succ]
    go_wp2_with (go_at_call 44; refine H0.out.mono ?_; rintro e1 w1 ⟨rfl, rfl⟩)
    rw [rounds_succ]
    go_wp2_with (go_at_call 44; refine H1.out.mono ?_; rintro e1 w1 ⟨rfl, rfl⟩)
    go_ret
    exact ⟨rfl, rfl⟩
  | false =>
    cases p2 with
    | true =>
      go_enter Try.func50, Try.ntmps50
      go_wp2_with fail
      refine wp_loop_rounds 5 ?_
      rw [rounds_succ]
      go_wp2_with (go_at_call 44; refine H0.out.mono ?_; rintro e1 w1 ⟨rfl, rfl⟩)
      rw [rounds_succ]
      go_wp2_with (go_at_call 44; refine H1.out.mono ?_; rintro e1 w1 ⟨rfl, rfl⟩)
      rw [rounds_succ]
      go_wp2_with (go_at_call 44; refine H2.out.mono ?_; rintro e1 w1 ⟨rfl, rfl⟩)
      go_ret
      exact ⟨rfl, rfl⟩
    | false =>
      cases p3 with
      | true =>
        go_enter Try.func50, Try.ntmps50
        go_wp2_with fail
        refine wp_loop_rounds 5 ?_
        rw [rounds_succ]
        go_wp2_with (go_at_call 44; refine H0.out.mono ?_; rintro e1 w1 ⟨rfl, rfl⟩)
        rw [rounds_succ]
        go_wp2_with (go_at_call 44; refine H1.out.mono ?_; rintro e1 w1 ⟨rfl, rfl⟩)
        rw [rounds_succ]
        go_wp2_with (go_at_call 44; refine H2.out.mono ?_; rintro e1 w1 ⟨rfl, rfl⟩)
        rw [rounds_succ]
        go_wp2_with (go_at_call 44; refine H3.out.mono ?_; rintro e1 w1 ⟨rfl, rfl⟩)
        go_ret
        exact ⟨rfl, rfl⟩
      | false =>
        go_enter Try.func50, Try.ntmps50
        go_wp2_with fail
        refine wp_loop_rounds 5 ?_
        rw [rounds_succ]
        go_wp2_with (go_at_call 44; refine H0.out.mono ?_; rintro e1 w1 ⟨rfl, rfl⟩)
        rw [rounds_succ]
        go_wp2_with (go_at_call 44; refine H1.out.mono ?_; rintro e1 w1 ⟨rfl, rfl⟩)
        rw [rounds_succ]
        go_wp2_with (go_at_call 44; refine H2.out.mono ?_; rintro e1 w1 ⟨rfl, rfl⟩)
        rw [rounds_succ]
        go_wp2_with (go_at_call 44; refine H3.out.mono ?_; rintro e1 w1 ⟨rfl, rfl⟩)
        rw [rounds_succ]
        go_wp2_with fail
        go_ret
        exact ⟨rfl, rfl⟩
theorem idx3_ge (p1 p2 p3 : Bool) : decide ((0 : Int) ≤ idx3 p1 p2 p3) = (p1 || p2 || p3) := by
  cases p1 <;> cases p2 <;> cases p3 <;> rfl
set_option maxHeartbeats 1000000 in
theorem contains3_any (p1 p2 p3 : Bool) (sv fv : Value) (w : World) (h : Calls Try.prog 50 #[sv, fv] w fun e w' => e = .returned (.int .i64 (idx3 p1 p2 p3)) ∧ w = w') :
    Calls Try.prog 43 #[sv, fv] w fun e w' => e = .returned (.bool (p1 || p2 || p3)) ∧ w = w' := by
  have HI := Lib.hid h
  have hge := idx3_ge p1 p2 p3
  clear h
  generalize idx3 p1 p2 p3 = z at *
  generalize (p1 || p2 || p3) = d at *
  go_enter Try.func43, Try.ntmps43
  go_wp2_with (go_at_call 50; refine HI.out.mono ?_; rintro e1 w1 ⟨rfl, rfl⟩)
  go_ret
  exact ⟨by rw [← hge]; rfl, rfl⟩
set_option maxHeartbeats 4000000 in
theorem sure_any (b : List UInt8) (A : Option Addr) (n c B : Nat) (w : World) (hx : Rd w B 1 A n (b.map bV)) (hc : n ≤ c) (hB : B ≤ w.heap.size) :
    Calls Try.prog 33 #[.slice A n c] w fun e w' => e = .returned (.bool (sureB b)) ∧ Below w.heap.size w w' := by
  have hb0 : Below w.heap.size w (w.alloc (.cells #[.slice A n c] 22)) := below_al (Below.refl _ _) _
  have hx1 := (hx.more hB).below hb0
  have HM := Lib.hid (mark_any b A n c w.heap.size _ hx1 hc hb0.size)
  have HB0 := Lib.hid hb0
  have HX1 := Lib.hid hx1
  have HK0 := Lib.hid (Blk.new w 22 #[.slice A n c])
  clear hx hx1 hb0
  unfold sureB
  obtain ⟨mk, hmk⟩ : ∃ x, markP b = x := ⟨_, rfl⟩
  rw [hmk] at HM ⊢
  clear hmk
  obtain ⟨q1, q2⟩ := mk
  by_cases hq : 0 < q2
  · rw [decide_eq_true hq, Bool.true_or]
    go_enter Try.func33, Try.ntmps33
    go_wp2_with (go_at_call 34; refine HM.out.mono ?_; rintro e1 w1 ⟨rfl, hb1⟩; have HB1 := Lib.hid (below_trans HB0.out hb1); clear hb1)
    go_ret
    exact ⟨rfl, HB1.out⟩
  · rw [decide_eq_false hq, Bool.false_or]
    go_enter Try.func33, Try.ntmps33
    go_wp2_with fail
    refine HM.out.mono ?_
    rintro e1 w1 ⟨rfl, hb1⟩
    have HB1 := Lib.hid (below_trans HB0.out hb1)
    have HX2 := Lib.hid (HX1.out.below (hb1.mono HB0.out.size))
    have HK1 := Lib.hid (HK0.out.below hb1 (by simp))
    clear hb1
    go_wp2_with fail
    refine (marks_any _).mono ?_
    rintro e2 w2 ⟨g1, g2, g3, rfl, hb2, hr1, hr2, hr3⟩
    have HB2 := Lib.hid (below_trans HB1.out hb2)
    have hx3 := (HX2.out.below (hb2.mono HB1.out.size))
    have hk2 := HK1.out.below hb2 (Nat.lt_of_lt_of_le (by simp) (HK1.out.lt))
    have hb3 : Below w2.heap.size w2 (w2.alloc (.cells #[.slice none 0 0, .slice (some ⟨g1, 0, none⟩) 3 3, .slice (some ⟨g2, 0, none⟩) 2 2, .slice (some ⟨g3, 0, none⟩) 2 2] 68)) := below_al (Below.refl _ _) _
    have HB3 := Lib.hid (below_trans HB2.out hb3)
    have hbk := Blk.new w2 68 #[.slice none 0 0, .slice (some ⟨g1, 0, none⟩) 3 3, .slice (some ⟨g2, 0, none⟩) 2 2, .slice (some ⟨g3, 0, none⟩) 2 2]
    have hx4 := hx3.below (hb3.mono HB2.out.size)
    have hg := (hk2.below hb3 hk2.lt).cell 0
    have HCF := Lib.hid (contains3_any _ _ _ _ _ _ (index3_any (part1 mk1 b) (part1 mk2 b) (part1 mk3 b) g1 g2 g3 w2.heap.size w.heap.size _ (hbk.cell 0) (hbk.cell 1) (hbk.cell 2) (hbk.cell 3)
      (by
        have := sure1_any [] b none A 0 0 n c 0 _ w.heap.size _ ⟨rfl, fun h => absurd h (by omega)⟩ (Nat.le_refl _) hx4 hg
        rw [show part1 [] b = false from by unfold part1; simp] at this
        exact this)
      (sure1_any mk1 b _ A 3 3 n c _ _ w.heap.size _ (hr1.below hb3) (Nat.le_refl _) hx4 hg)
      (sure1_any mk2 b _ A 2 2 n c _ _ w.heap.size _ (hr2.below hb3) (Nat.le_refl _) hx4 hg)
      (sure1_any mk3 b _ A 2 2 n c _ _ w.heap.size _ (hr3.below hb3) (Nat.le_refl _) hx4 hg)))
    clear hb2 hr1 hr2 hr3 hx3 hk2 hb3 hbk hx4 hg
    rw [show (part1 mk1 b || part1 mk2 b || part1 mk3 b) = openB b from rfl] at HCF
    go_wp2_with fail
    refine HCF.out.mono ?_
    rintro e4 w4 ⟨rfl, rfl⟩
    go_wp2_with fail
    go_ret
    exact ⟨rfl, HB3.out⟩
end Go.Proofs.Ytoagjhhdijebmaa
