/-
  The decoder's state and how it lies in memory; the contracts of New, Kind, eight and units; no condition beyond those that each theorem states.
-/
import Derived.Test.YtoagjhhdijebmaaDecP
import Derived.Test.YtoagjhhdijebmaaBuilder
import Derived.Lib.MinMax
namespace Go.Proofs.Ytoagjhhdijebmaa
open Go.RowKit Go.Rb
attribute [local irreducible] Go.wpQuiet

def pp (p : Nat) : Value := .pointer (some ⟨p, 0, none⟩)
structure DS where
  kind : Int
  sure : Bool
  held : List UInt8
  closed : Bool
def Rep (w : World) (p : Nat) (s : DS) : Prop := ∃ v, Blk w p 43 #[.int .i64 s.kind, .bool s.sure, v, .bool s.closed] ∧ Own w 5 1 v s.held.length (s.held.map bV)
section
variable {w w' : World} {p : Nat} {s : DS} {T : Nat → Prop}
theorem Rep.lt (h : Rep w p s) : p < w.heap.size := by obtain ⟨v, h, _⟩ := h; exact Blk.lt h
theorem Rep.below {B : Nat} (h : Rep w p s) (hb : Below B w w') (hB : w.heap.size ≤ B) : Rep w' p s := by
  obtain ⟨v, h1, h2⟩ := h
  exact ⟨v, h1.below hb (by have := h1.lt; omega), h2.below hb fun k hk => by have := h2.lt hk; omega⟩
end
/-- What a call has done: only its block, and what is new. -/
def Went (w : World) (p : Nat) (s' : DS) (w' : World) : Prop := Only (fun k => k = p) w w' ∧ Rep w' p s'

set_option maxHeartbeats 1000000 in
theorem new_ok (k : Int) (w : World) (h1 : 0 ≤ k) (h2 : k ≤ 3) : Calls Try.prog 8 #[.int .i64 k] w fun e w' => e = .returned (.tuple #[pp w.heap.size, .int .i64 0]) ∧ Below w.heap.size w w' ∧ Rep w' w.heap.size ⟨k, !decide (k = 0), [], false⟩ ∧ w'.heap.size = w.heap.size + 1 := by
  have i1 : ¬ k < 0 := by omega
  have i2 : ¬ 3 < k := by omega
  unfold pp
  by_cases h0 : k = 0
  · subst h0
    go_enter Try.func8, Try.ntmps8
    go_wp2_with fail
    go_ret2
    exact ⟨rfl, below_al (Below.refl _ _) _, ⟨_, Blk.new w _ _, Own.nil_ _ _ _⟩, by simp⟩
  · have i3 : (k == 0) = false := by simpa using h0
    have i4 : (k != 0) = true := by simpa using h0
    have HK : Hid ((!decide (k = 0)) = true) := by show _ = _; simp [h0]
    rw [HK.out]
    clear h0
    go_enter Try.func8, Try.ntmps8
    go_wp2_with fail
    go_ret2
    exact ⟨rfl, below_al (Below.refl _ _) _, ⟨_, Blk.new w _ _, Own.nil_ _ _ _⟩, by simp⟩
set_option maxHeartbeats 1000000 in
theorem new_bad (k : Int) (w : World) (h : k < 0 ∨ 3 < k) : Calls Try.prog 8 #[.int .i64 k] w fun e w' => e = .returned (.tuple #[.pointer none, .int .i64 2]) ∧ w = w' := by
  have h4 : ¬ k < 0 → 3 < k := by omega
  clear h
  by_cases h3 : k < 0
  case' neg => have h5 := h4 h3
  all_goals clear h4
  all_goals
    go_enter Try.func8, Try.ntmps8
    go_wp2_with fail
    go_ret2
    exact ⟨rfl, rfl⟩
set_option maxHeartbeats 1000000 in
theorem kind_any {p : Nat} {s : DS} (w : World) (h : Rep w p s) : Calls Try.prog 12 #[pp p] w fun e w' => e = .returned (.int .i64 s.kind) ∧ w = w' := by
  obtain ⟨v, hb, hv⟩ := h
  have c0 := hb.cell 0
  simp only [List.getElem?_toArray, List.getElem?_cons_zero] at c0
  clear hb hv
  unfold pp
  go_enter Try.func12, Try.ntmps12
  go_wp2_with fail
  go_ret
  exact ⟨rfl, rfl⟩
set_option maxHeartbeats 2000000 in
theorem eight_any {p : Nat} {s : DS} (all : Bool) (w : World) (h : Rep w p s) (hk : s.kind = 1) (hl : s.held.length ≤ 100000) :
    Calls Try.prog 28 #[pp p, .bool all] w fun e w' => e = .returned (.tuple #[.int .i64 (stepD 1 all s.held).1, .int .i64 (stepD 1 all s.held).2]) ∧ Below w.heap.size w w' := by
  obtain ⟨v, hb, hv⟩ := h
  obtain ⟨A, c, rfl, hc, -⟩ := hv.len_
  have c2 := hb.cell 2
  simp only [List.getElem?_toArray, List.getElem?_cons_zero, List.getElem?_cons_succ] at c2
  have HB := Lib.hid (fun W (hW : Below w.heap.size w W) => (hb.below hW hb.lt).cell 2)
  have HO := Lib.hid (codeOpen_any s.held A s.held.length c w.heap.size w hv.rd hc (by omega) (Nat.le_refl _))
  have HG := Lib.hid (fun W (hW : Below w.heap.size w W) => codeGet_any s.held A s.held.length c w.heap.size W (hv.rd.below hW) hc (by omega))
  unfold GetTo at HG
  have hst : stepD 1 all s.held = if (!all && decide (OpenC s.held)) = true then (0, 0) else getP s.held := by unfold stepD; rw [if_pos rfl]
  rw [hst]
  clear hst hb hv hk
  generalize getP s.held = g at *
  generalize s.held.length = n at *
  generalize decide (OpenC s.held) = o at *
  unfold pp
  cases all with
  | true =>
    simp only [Bool.not_true, Bool.false_and, Bool.false_eq_true, if_false]
    go_enter Try.func28, Try.ntmps28
    go_wp2_with (go_at_call 38; refine (HG.out _ (Below.refl _ _)).mono ?_; rintro e1 w1 ⟨rfl, rfl⟩)
    go_ret2
    exact ⟨rfl, Below.refl _ _⟩
  | false =>
    cases o with
    | true =>
      simp only [Bool.not_false, Bool.true_and, if_true]
      go_enter Try.func28, Try.ntmps28
      go_wp2_with (go_at_call 37; refine HO.out.mono ?_; rintro e1 w1 ⟨rfl, hb1⟩; have HB1 := Lib.hid hb1; clear hb1)
      go_ret2
      exact ⟨rfl, HB1.out⟩
    | false =>
      simp only [Bool.not_false, Bool.true_and, Bool.false_eq_true, if_false]
      go_enter Try.func28, Try.ntmps28
      go_wp2_with (first
        | (go_at_call 37; refine HO.out.mono ?_; rintro e1 w1 ⟨rfl, hb1⟩; have HB1 := Lib.hid hb1; have c3 := HB.out _ HB1.out; simp only [List.getElem?_toArray, List.getElem?_cons_zero, List.getElem?_cons_succ] at c3; clear hb1)
        | (go_at_call 38; refine (HG.out _ HB1.out).mono ?_; rintro e2 w2 ⟨rfl, rfl⟩))
      go_ret2
      exact ⟨rfl, HB1.out⟩
end Go.Proofs.Ytoagjhhdijebmaa
