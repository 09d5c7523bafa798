/-
  The contract of slices.Clone; no condition beyond those that each theorem states.
-/
import Derived.Test.YtgfienopijlnkaaPar7
import Derived.Lib.Strings
namespace Go.Proofs.Ytgfienopijlnkaa
open Go.RowKit Go.Rb
attribute [local irreducible] Go.wpQuiet

theorem infoH : (Try.prog.info? 56).map (fun i => (i.zero, i.size, i.bytes)) = some (some (.agg #[.int .i64 0, .int .i64 0]), 2, 16) := by kernel_rfl
theorem flat_one (l : List (Int × Int)) : ∀ u ∈ flat l, u.oneCell' = true := by
  intro u hu
  simp only [flat, List.mem_flatMap] at hu
  obtain ⟨x, -, hx⟩ := hu
  simp only [List.mem_cons, List.not_mem_nil, or_false] at hx
  rcases hx with rfl | rfl <;> rfl
set_option maxHeartbeats 1000000 in
theorem clone_any (A : Option Addr) (n c B : Nat) (hs : List (Int × Int)) (w : World) (hr : Rd w B 2 A n (flat hs)) (hB : B ≤ w.heap.size) (hn : n ≤ 1000) :
    Calls Try.prog 33 #[.slice A n c] w fun e w' => ∃ v, e = .returned v ∧ Own w' 56 2 v n (flat hs) ∧ (∀ k, v.ownBlock = some k → w.heap.size ≤ k) ∧ Below w.heap.size w w' := by
  obtain ⟨i0, hi0, hz0, hz1, hz2⟩ := info_parts infoH
  have q22 : ∀ (w : World) (a : Option Addr) (n c n' c' : Nat), (binOp .eql 25 (.slice a n c) (.slice none n' c')).run Try.prog w = .ok (.bool a.isNone) w := fun w a n c n' c' => Lib.run_eql_slice_nil w _ _ a n c n' c' Try.underlying25
  cases A with
  | none =>
    have h0 : n = 0 := by
      rcases Nat.eq_zero_or_pos n with h | h
      · exact h
      · obtain ⟨b, off, hA, -⟩ := hr.2 h; cases hA
    subst h0
    have hx : flat hs = [] := List.eq_nil_of_length_eq_zero (by simpa using hr.1)
    have HX := Lib.hid hx
    clear hr hx
    go_enter Try.func33, Try.ntmps33
    go_wp2_with fail
    go_ret
    exact ⟨_, rfl, by rw [HX.out]; exact Own.nil_ _ _ _, by simp [Value.ownBlock], Below.refl _ _⟩
  | some a =>
    have HR := Lib.hid hr
    have HB := Lib.hid hB
    have H1 := Lib.hid (flat_one hs)
    have H63 := Lib.hid (show 0 + n ≤ maxLen by simp only [maxLen]; omega)
    clear hr hB
    generalize flat hs = xs at *
    go_enter Try.func33, Try.ntmps33
    go_wp2_with (at_builtin; go_loud (refine wpList_append_rd _ rfl (.tmp 5) (.tmp 6) _ rfl 56 i0 _ 2 16 Try.underlying25 hi0 hz0 hz1 hz2 rfl (by omega) (.slice (some ⟨w.heap.size, 0, none⟩) 0 0) 0 [] rfl (by exact Own.lit w 56 2 0 #[] rfl (by decide)) _ (some a) n c xs rfl (by exact HR.out.below (below_al (Below.refl _ w) _ |>.mono HB.out)) H1.out H63.out (by omega) _ rfl ?_; intro v2 w2 hown2 hgrow2 hat2; rw [Nat.zero_add, List.nil_append] at hown2; have HO2 := Lib.hid hown2; have HB2 := Lib.hid (Below.grown (below_al (Below.refl _ w) (.cells #[] 56)) hgrow2 (by simp) (by simp [Value.ownBlock])); have HK2 : Hid (∀ k, v2.ownBlock = some k → w.heap.size ≤ k) := (fun k hk => by rcases hat2 with h | h; (have := h.symm.trans hk; simp [Value.ownBlock] at this; omega); (have := h.symm.trans hk; simp at this; omega)); clear hown2 hgrow2 hat2))
    go_ret
    exact ⟨v2, rfl, HO2.out, HK2.out, HB2.out⟩
end Go.Proofs.Ytgfienopijlnkaa
