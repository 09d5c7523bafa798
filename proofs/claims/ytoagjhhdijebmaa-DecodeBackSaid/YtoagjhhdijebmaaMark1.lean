/-
  The contracts of bytes.Equal, bytes.HasPrefix, order.marks and order.Mark; no condition beyond those that each theorem states.
-/
import Derived.Test.YtoagjhhdijebmaaOrd5
import Derived.Handy
namespace Go.Proofs.Ytoagjhhdijebmaa
open Go.RowKit Go.Rb
attribute [local irreducible] Go.wpQuiet

theorem beq_str (xs ys : List UInt8) : ((⟨xs.toArray⟩ : ByteArray).toList == (⟨ys.toArray⟩ : ByteArray).toList) = decide (xs = ys) := by
  rw [ByteArray.toList_mk, ByteArray.toList_mk, Bool.eq_iff_iff, beq_iff_eq, decide_eq_true_iff]
set_option maxHeartbeats 1000000 in
theorem equal_any (xs ys : List UInt8) (A A' : Option Addr) (n c n' c' B B' : Nat) (w : World) (hx : Rd w B 1 A n (xs.map bV)) (hy : Rd w B' 1 A' n' (ys.map bV)) :
    Calls Try.prog 51 #[.slice A n c, .slice A' n' c'] w fun e w' => e = .returned (.bool (decide (xs = ys))) ∧ w = w' := by
  have k1 := conv_rd (cap := c) hx
  have k2 := conv_rd (cap := c') hy
  have hb := beq_str xs ys
  clear hx hy
  generalize decide (xs = ys) = d at *
  generalize (⟨xs.toArray⟩ : ByteArray) = x at *
  generalize (⟨ys.toArray⟩ : ByteArray) = y at *
  go_enter Try.func51, Try.ntmps51
  go_wp2
  go_ret
  exact ⟨by rw [← hb]; rfl, rfl⟩

/-- Does it begin so? -/
def prefB (b m : List UInt8) : Bool := decide (m.length ≤ b.length ∧ b.take m.length = m)
set_option maxHeartbeats 1000000 in
theorem prefix_any (b m : List UInt8) (A A' : Option Addr) (n c n' c' B B' : Nat) (w : World) (hx : Rd w B 1 A n (b.map bV)) (hc : n ≤ c) (hy : Rd w B' 1 A' n' (m.map bV)) :
    Calls Try.prog 45 #[.slice A n c, .slice A' n' c'] w fun e w' => e = .returned (.bool (prefB b m)) ∧ w = w' := by
  have hl : b.length = n := by simpa using hx.1
  have hl' : m.length = n' := by simpa using hy.1
  by_cases h : n' ≤ n
  · have i1 : (n' : Int) ≤ (n : Int) := by omega
    have ht := hx.take_ h
    rw [Nat.mul_one, ← List.map_take] at ht
    have HE := Lib.hid (equal_any (b.take n') m A A' n' c n' c' B B' w ht hy)
    have hp : prefB b m = decide (b.take n' = m) := by
      unfold prefB
      rw [hl', hl, decide_eq_decide]
      exact ⟨fun h => h.2, fun h' => ⟨h, h'⟩⟩
    rw [hp]
    clear hp
    generalize decide (b.take n' = m) = d at *
    have i2 : n' ≤ c := by omega
    have i3 : (n' : Int) ≤ (c : Int) := by omega
    clear hx hy ht
    go_enter Try.func45, Try.ntmps45
    go_wp2_with (go_at_call 51; refine HE.out.mono ?_; rintro e1 w1 ⟨rfl, rfl⟩)
    go_ret
    exact ⟨rfl, rfl⟩
  · have i1 : ¬ (n' : Int) ≤ (n : Int) := by omega
    have hp : prefB b m = false := by
      unfold prefB
      rw [hl', hl, decide_eq_false_iff_not]
      exact fun h' => h h'.1
    rw [hp]
    clear hx hy
    go_enter Try.func45, Try.ntmps45
    go_wp2
    go_ret
    exact ⟨rfl, rfl⟩

def mk1 : List UInt8 := [239, 187, 191]
def mk2 : List UInt8 := [255, 254]
def mk3 : List UInt8 := [254, 255]
set_option maxHeartbeats 1000000 in
theorem marks_any (w : World) : Calls Try.prog 42 #[] w fun e w' => ∃ g1 g2 g3, e = .returned (.agg #[.slice none 0 0, .slice (some ⟨g1, 0, none⟩) 3 3, .slice (some ⟨g2, 0, none⟩) 2 2, .slice (some ⟨g3, 0, none⟩) 2 2]) ∧ Below w.heap.size w w' ∧
    Rd w' w'.heap.size 1 (some ⟨g1, 0, none⟩) 3 (mk1.map bV) ∧ Rd w' w'.heap.size 1 (some ⟨g2, 0, none⟩) 2 (mk2.map bV) ∧ Rd w' w'.heap.size 1 (some ⟨g3, 0, none⟩) 2 (mk3.map bV) := by
  go_enter Try.func42, Try.ntmps42
  go_wp2_with fail
  go_returns
  refine ⟨_, _, _, rfl, below_al (below_al (below_al (below_al (Below.refl _ _) _) _) _) _, ?_, ?_, ?_⟩
  · have h := Own.lit (w.alloc (.cells #[.slice none 0 0, .slice (some ⟨w.heap.size + 1, 0, none⟩) 3 3, .slice (some ⟨w.heap.size + 1 + 1, 0, none⟩) 2 2, .slice (some ⟨w.heap.size + 1 + 1 + 1, 0, none⟩) 2 2] 68)) 5 1 3 #[.int .u8 239, .int .u8 187, .int .u8 191] rfl (by decide)
    have e : ∀ o, (w.alloc o).heap.size = w.heap.size + 1 := fun o => by simp
    rw [e] at h
    exact ((h.alloc _).alloc _).rd
  · have h := Own.lit ((w.alloc (.cells #[.slice none 0 0, .slice (some ⟨w.heap.size + 1, 0, none⟩) 3 3, .slice (some ⟨w.heap.size + 1 + 1, 0, none⟩) 2 2, .slice (some ⟨w.heap.size + 1 + 1 + 1, 0, none⟩) 2 2] 68)).alloc (.cells #[.int .u8 239, .int .u8 187, .int .u8 191] 5)) 5 1 2 #[.int .u8 255, .int .u8 254] rfl (by decide)
    have e : ∀ o o', ((w.alloc o).alloc o').heap.size = w.heap.size + 1 + 1 := fun o o' => by simp
    rw [e] at h
    exact (h.alloc _).rd
  · have h := Own.lit (((w.alloc (.cells #[.slice none 0 0, .slice (some ⟨w.heap.size + 1, 0, none⟩) 3 3, .slice (some ⟨w.heap.size + 1 + 1, 0, none⟩) 2 2, .slice (some ⟨w.heap.size + 1 + 1 + 1, 0, none⟩) 2 2] 68)).alloc (.cells #[.int .u8 239, .int .u8 187, .int .u8 191] 5)).alloc (.cells #[.int .u8 255, .int .u8 254] 5)) 5 1 2 #[.int .u8 254, .int .u8 255] rfl (by decide)
    have e : ∀ o o' o2, (((w.alloc o).alloc o').alloc o2).heap.size = w.heap.size + 1 + 1 + 1 := fun o o' o2 => by simp
    rw [e] at h
    exact h.rd
theorem ix0 (a b c d : Value) (W : World) : (Instr.index 68 (.agg #[a, b, c, d]) (.int .i64 0)).run Try.prog W = .ok a W := by
  kernel_rfl
theorem ix1 (a b c d : Value) (W : World) : (Instr.index 68 (.agg #[a, b, c, d]) (.int .i64 1)).run Try.prog W = .ok b W := by
  kernel_rfl
theorem ix2 (a b c d : Value) (W : World) : (Instr.index 68 (.agg #[a, b, c, d]) (.int .i64 2)).run Try.prog W = .ok c W := by
  kernel_rfl
theorem ix3 (a b c d : Value) (W : World) : (Instr.index 68 (.agg #[a, b, c, d]) (.int .i64 3)).run Try.prog W = .ok d W := by
  kernel_rfl
/-- Which mark stands at the beginning, and how many octets it has. -/
def markP (b : List UInt8) : Int × Int := if prefB b mk1 then (1, 3) else if prefB b mk2 then (2, 2) else if prefB b mk3 then (3, 2) else (0, 0)
set_option maxHeartbeats 4000000 in
theorem mark_any (b : List UInt8) (A : Option Addr) (n c B : Nat) (w : World) (hx : Rd w B 1 A n (b.map bV)) (hc : n ≤ c) (hB : B ≤ w.heap.size) :
    Calls Try.prog 34 #[.slice A n c] w fun e w' => e = .returned (.tuple #[.int .i64 (markP b).1, .int .i64 (markP b).2]) ∧ Below w.heap.size w w' := by
  have HX := Lib.hid (hx.more hB)
  clear hx
  unfold markP
  have HP := Lib.hid (fun (m : List UInt8) (A' : Option Addr) n' c' W (hb : Below w.heap.size w W) (hy : Rd W W.heap.size 1 A' n' (m.map bV)) => prefix_any b m A A' n c n' c' w.heap.size W.heap.size W (HX.out.below hb) hc hy)
  generalize hp1 : prefB b mk1 = p1
  generalize hp2 : prefB b mk2 = p2
  generalize hp3 : prefB b mk3 = p3
  cases p1 with
  | true =>
    go_enter Try.func34, Try.ntmps34
    go_wp2_with (go_at_call 42; refine (marks_any _).mono ?_; rintro e1 w1 ⟨g1, g2, g3, rfl, hb1, hr1, hr2, hr3⟩; have HB1 := Lib.hid hb1; have H1 := Lib.hid (HP.out mk1 (some ⟨g1, 0, none⟩) 3 3 w1 hb1 hr1); have H2 := Lib.hid (HP.out mk2 (some ⟨g2, 0, none⟩) 2 2 w1 hb1 hr2); have H3 := Lib.hid (HP.out mk3 (some ⟨g3, 0, none⟩) 2 2 w1 hb1 hr3); rw [hp1] at H1; rw [hp2] at H2; rw [hp3] at H3; have q0 := ix0 (.slice none 0 0) (.slice (some ⟨g1, 0, none⟩) 3 3) (.slice (some ⟨g2, 0, none⟩) 2 2) (.slice (some ⟨g3, 0, none⟩) 2 2); have q1 := ix1 (.slice none 0 0) (.slice (some ⟨g1, 0, none⟩) 3 3) (.slice (some ⟨g2, 0, none⟩) 2 2) (.slice (some ⟨g3, 0, none⟩) 2 2); have q2 := ix2 (.slice none 0 0) (.slice (some ⟨g1, 0, none⟩) 3 3) (.slice (some ⟨g2, 0, none⟩) 2 2) (.slice (some ⟨g3, 0, none⟩) 2 2); have q3 := ix3 (.slice none 0 0) (.slice (some ⟨g1, 0, none⟩) 3 3) (.slice (some ⟨g2, 0, none⟩) 2 2) (.slice (some ⟨g3, 0, none⟩) 2 2); clear hb1 hr1 hr2 hr3)
    refine wp_loop_rounds 5 ?_
    rw [rounds_succ]
    go_wp2_with fail
    rw [rounds_succ]
    go_wp2_with (go_at_call 45; refine H1.out.mono ?_; rintro e2 w2 ⟨rfl, rfl⟩)
    go_ret2
    exact ⟨rfl, HB1.out⟩
  | false =>
    cases p2 with
    | true =>
      go_enter Try.func34, Try.ntmps34
      go_wp2_with (go_at_call 42; refine (marks_any _).mono ?_; rintro e1 w1 ⟨g1, g2, g3, rfl, hb1, hr1, hr2, hr3⟩; have HB1 := Lib.hid hb1; have H1 := Lib.hid (HP.out mk1 (some ⟨g1, 0, none⟩) 3 3 w1 hb1 hr1); have H2 := Lib.hid (HP.out mk2 (some ⟨g2, 0, none⟩) 2 2 w1 hb1 hr2); have H3 := Lib.hid (HP.out mk3 (some ⟨g3, 0, none⟩) 2 2 w1 hb1 hr3); rw [hp1] at H1; rw [hp2] at H2; rw [hp3] at H3; have q0 := ix0 (.slice none 0 0) (.slice (some ⟨g1, 0, none⟩) 3 3) (.slice (some ⟨g2, 0, none⟩) 2 2) (.slice (some ⟨g3, 0, none⟩) 2 2); have q1 := ix1 (.slice none 0 0) (.slice (some ⟨g1, 0, none⟩) 3 3) (.slice (some ⟨g2, 0, none⟩) 2 2) (.slice (some ⟨g3, 0, none⟩) 2 2); have q2 := ix2 (.slice none 0 0) (.slice (some ⟨g1, 0, none⟩) 3 3) (.slice (some ⟨g2, 0, none⟩) 2 2) (.slice (some ⟨g3, 0, none⟩) 2 2); have q3 := ix3 (.slice none 0 0) (.slice (some ⟨g1, 0, none⟩) 3 3) (.slice (some ⟨g2, 0, none⟩) 2 2) (.slice (some ⟨g3, 0, none⟩) 2 2); clear hb1 hr1 hr2 hr3)
      refine wp_loop_rounds 5 ?_
      rw [rounds_succ]
      go_wp2_with fail
      rw [rounds_succ]
      go_wp2_with (go_at_call 45; refine H1.out.mono ?_; rintro e2 w2 ⟨rfl, rfl⟩)
      rw [rounds_succ]
      go_wp2_with (go_at_call 45; refine H2.out.mono ?_; rintro e2 w2 ⟨rfl, rfl⟩)
      go_ret2
      exact ⟨rfl, HB1.out⟩
    | false =>
      cases p3 with
      | true =>
        go_enter Try.func34, Try.ntmps34
        go_wp2_with (go_at_call 42; refine (marks_any _).mono ?_; rintro e1 w1 ⟨g1, g2, g3, rfl, hb1, hr1, hr2, hr3⟩; have HB1 := Lib.hid hb1; have H1 := Lib.hid (HP.out mk1 (some ⟨g1, 0, none⟩) 3 3 w1 hb1 hr1); have H2 := Lib.hid (HP.out mk2 (some ⟨g2, 0, none⟩) 2 2 w1 hb1 hr2); have H3 := Lib.hid (HP.out mk3 (some ⟨g3, 0, none⟩) 2 2 w1 hb1 hr3); rw [hp1] at H1; rw [hp2] at H2; rw [hp3] at H3; have q0 := ix0 (.slice none 0 0) (.slice (some ⟨g1, 0, none⟩) 3 3) (.slice (some ⟨g2, 0, none⟩) 2 2) (.slice (some ⟨g3, 0, none⟩) 2 2); have q1 := ix1 (.slice none 0 0) (.slice (some ⟨g1, 0, none⟩) 3 3) (.slice (some ⟨g2, 0, none⟩) 2 2) (.slice (some ⟨g3, 0, none⟩) 2 2); have q2 := ix2 (.slice none 0 0) (.slice (some ⟨g1, 0, none⟩) 3 3) (.slice (some ⟨g2, 0, none⟩) 2 2) (.slice (some ⟨g3, 0, none⟩) 2 2); have q3 := ix3 (.slice none 0 0) (.slice (some ⟨g1, 0, none⟩) 3 3) (.slice (some ⟨g2, 0, none⟩) 2 2) (.slice (some ⟨g3, 0, none⟩) 2 2); clear hb1 hr1 hr2 hr3)
        refine wp_loop_rounds 5 ?_
        rw [rounds_succ]
        go_wp2_with fail
        rw [rounds_succ]
        go_wp2_with (go_at_call 45; refine H1.out.mono ?_; rintro e2 w2 ⟨rfl, rfl⟩)
        rw [rounds_succ]
        go_wp2_with (go_at_call 45; refine H2.out.mono ?_; rintro e2 w2 ⟨rfl, rfl⟩)
        rw [rounds_succ]
        go_wp2_with (go_at_call 45; refine H3.out.mono ?_; rintro e2 w2 ⟨rfl, rfl⟩)
        go_ret2
        exact ⟨rfl, HB1.out⟩
      | false =>
        go_enter Try.func34, Try.ntmps34
        go_wp2_with (go_at_call 42; refine (marks_any _).mono ?_; rintro e1 w1 ⟨g1, g2, g3, rfl, hb1, hr1, hr2, hr3⟩; have HB1 := Lib.hid hb1; have H1 := Lib.hid (HP.out mk1 (some ⟨g1, 0, none⟩) 3 3 w1 hb1 hr1); have H2 := Lib.hid (HP.out mk2 (some ⟨g2, 0, none⟩) 2 2 w1 hb1 hr2); have H3 := Lib.hid (HP.out mk3 (some ⟨g3, 0, none⟩) 2 2 w1 hb1 hr3); rw [hp1] at H1; rw [hp2] at H2; rw [hp3] at H3; have q0 := ix0 (.slice none 0 0) (.slice (some ⟨g1, 0, none⟩) 3 3) (.slice (some ⟨g2, 0, none⟩) 2 2) (.slice (some ⟨g3, 0, none⟩) 2 2); have q1 := ix1 (.slice none 0 0) (.slice (some ⟨g1, 0, none⟩) 3 3) (.slice (some ⟨g2, 0, none⟩) 2 2) (.slice (some ⟨g3, 0, none⟩) 2 2); have q2 := ix2 (.slice none 0 0) (.slice (some ⟨g1, 0, none⟩) 3 3) (.slice (some ⟨g2, 0, none⟩) 2 2) (.slice (some ⟨g3, 0, none⟩) 2 2); have q3 := ix3 (.slice none 0 0) (.slice (some ⟨g1, 0, none⟩) 3 3) (.slice (some ⟨g2, 0, none⟩) 2 2) (.slice (some ⟨g3, 0, none⟩) 2 2); clear hb1 hr1 hr2 hr3)
        refine wp_loop_rounds 5 ?_
        rw [rounds_succ]
        go_wp2_with fail
        rw [rounds_succ]
        go_wp2_with (go_at_call 45; refine H1.out.mono ?_; rintro e2 w2 ⟨rfl, rfl⟩)
        rw [rounds_succ]
        go_wp2_with (go_at_call 45; refine H2.out.mono ?_; rintro e2 w2 ⟨rfl, rfl⟩)
        rw [rounds_succ]
        go_wp2_with (go_at_call 45; refine H3.out.mono ?_; rintro e2 w2 ⟨rfl, rfl⟩)
        rw [rounds_succ]
        go_wp2_with fail
        go_ret2
        exact ⟨rfl, HB1.out⟩
end Go.Proofs.Ytoagjhhdijebmaa
