/-
  The contracts of Turns, Steps, and of the law's awake and small; no condition beyond those that each theorem states.
-/
import Derived.Test.YtamgngmbbbegpaaLoom8
namespace Go.Proofs.Ytamgngmbbbegpaa
open Go.RowKit Go.Rb
attribute [local irreducible] Go.wpQuiet

set_option maxHeartbeats 1000000 in
theorem clone_ints (A : Option Addr) (n c B : Nat) (zs : List Int) (w : World) (hr : Rd w B 1 A n (zs.map iV)) (hc : n ≤ c) (hn : n ≤ 1000000) (hB : B ≤ w.heap.size) (hz : A = none → c = 0) :
    Calls Try.prog 24 #[.slice A n c] w fun e w' => ∃ v, e = .returned v ∧ Own w' 3 1 v n (zs.map iV) ∧ Below w.heap.size w w' ∧ ∀ k, v.ownBlock = some k → w.heap.size ≤ k := by
  obtain ⟨i0, hi0, hz0, hz1, hz2⟩ := info_parts info3
  have HR := Lib.hid hr
  have hn1 := hr.1
  have hn0 : A = none → n = 0 := fun h => by
    rcases Nat.eq_zero_or_pos n with h0 | h0
    · exact h0
    · obtain ⟨b, off, hA, -⟩ := hr.2 h0
      rw [h] at hA; cases hA
  clear hr
  have q22 : ∀ (w : World) (a : Option Addr) (n c n' c' : Nat), (binOp .eql 23 (.slice a n c) (.slice none n' c')).run Try.prog w = .ok (.bool a.isNone) w := fun w a n c n' c' => Lib.run_eql_slice_nil w _ _ a n c n' c' Try.underlying23
  cases A with
  | none =>
    obtain rfl := hn0 rfl
    have he : zs.map iV = [] := List.eq_nil_of_length_eq_zero (by simpa using hn1)
    rw [he]
    clear he hn1 HR hn0
    go_enter Try.func24, Try.ntmps24
    go_wp2
    go_ret
    exact ⟨_, rfl, Own.nil_ _ _ _, Below.refl _ _, by simp [Value.ownBlock]⟩
  | some a =>
    clear hn0 hz hn1
    have H63 := Lib.hid (show 0 + n ≤ maxLen by simp only [maxLen]; omega)
    go_enter Try.func24, Try.ntmps24
    go_wp2_with (at_builtin; refine wpList_append_rd _ rfl (.tmp 5) (.tmp 6) _ rfl 3 i0 _ 1 8 Try.underlying23 hi0 hz0 hz1 hz2 rfl (by omega) (.slice (some ⟨w.heap.size, 0, none⟩) 0 0) 0 [] rfl (by exact Own.lit w 3 1 0 #[] rfl (by decide)) B (some a) n c (zs.map iV) rfl (by exact HR.out.below ((below_al (Below.refl _ _) _).mono hB)) (by simp [iV, Value.oneCell']) H63.out (by omega) _ rfl ?_; intro v1 w1 hown1 hgrow1 hat1)
    go_ret
    refine ⟨_, rfl, by simpa using hown1, Below.grown (below_al (Below.refl _ w) _) hgrow1 (by simp) (by simp [Value.ownBlock]), ?_⟩
    intro k hk
    rcases hat1 with h | h
    · have h' := h.symm.trans hk
      have : w.heap.size = k := by simpa [Value.ownBlock] using h'
      omega
    · have h' := h.symm.trans hk
      simp at h'; omega

section
variable {w w' : World} {B : Nat} {S L T : Nat → Prop} {lp sp : Nat} {J : Option Addr} {n cj : Nat} {tv lv tnv : Value} {tb : Nat → Nat} {m : Nat} {js : List Jb} {tk : List Int} {tn : List Nat}
def nI (tn : List Nat) : List Int := tn.map (fun k : Nat => (k : Int))
theorem nI_map (tn : List Nat) : (nI tn).map iV = tn.map nV := by unfold nI; rw [List.map_map]; rfl
theorem lSteps_any (h : LmA w B S L lp sp J n cj tv lv tnv tb m js tk tn) :
    Calls Try.prog 16 #[pp lp] w fun e w' => e = .returned (.int .i64 (tn.length : Int)) ∧ w = w' := by
  have c1 := h.c1
  obtain ⟨A, cap, rfl, -, -⟩ := h.tu.len_
  clear h
  generalize tn.length = l at *
  unfold pp
  go_enter Try.func16, Try.ntmps16
  go_wp2
  go_ret
  exact ⟨rfl, rfl⟩
theorem own_none {w : World} {e : TypeId} {sz n c : Nat} {xs : List Value} (h : Own w e sz (.slice none n c) n xs) : c = 0 := by
  rcases h.2 with ⟨h, _⟩ | ⟨g, off, cap, cur, h, _⟩
  · simp only [Value.slice.injEq] at h; exact h.2.2
  · cases h
theorem lTurns_any (h : LmA w B S L lp sp J n cj tv lv tnv tb m js tk tn) (htn : tn.length ≤ 100000) :
    Calls Try.prog 13 #[pp lp] w fun e w' => ∃ v, e = .returned v ∧ Own w' 3 1 v tn.length ((nI tn).map iV) ∧ Below w.heap.size w w' ∧ ∀ k, v.ownBlock = some k → w.heap.size ≤ k := by
  have c1 := h.c1
  have hu := h.tu
  obtain ⟨A, cap, rfl, hc, -⟩ := h.tu.len_
  have hr := hu.rd
  rw [← nI_map] at hr
  have HC := Lib.hid (clone_ints A tn.length cap _ (nI tn) w hr hc (by omega) (Nat.le_refl _) (fun e => by subst e; exact own_none hu))
  clear h hu hr
  unfold pp
  go_enter Try.func13, Try.ntmps13
  go_wp2_with fail
  refine HC.out.mono ?_
  rintro e1 w1 ⟨v, rfl, hv, hb, hk⟩
  have HV := Lib.hid hv; have HB := Lib.hid hb; have HK := Lib.hid hk
  clear hv hb hk
  go_wp2_with fail
  go_ret
  exact ⟨_, rfl, HV.out, HB.out, HK.out⟩
end

def js2 : List Jb := [⟨5, -1, 0⟩, ⟨5, -1, 0⟩]
set_option maxHeartbeats 2000000 in
theorem awake_any (w : World) : Calls Try.prog 7 #[] w fun e w' => e = .returned (.bool true) ∧ Below w.heap.size w w' := by
  have hr := (Own.lit w 47 3 2 #[.int .i64 5, .int .i64 (-1), .int .i64 0, .int .i64 5, .int .i64 (-1), .int .i64 0] rfl (by decide)).rd
  have HM := Lib.hid (made_any _ _ _ 2 2 js2 (show Rd _ _ 3 _ 2 (flat3 (jrow js2) 2) from hr) rfl (by omega) (Nat.le_refl _) (by omega))
  have HB : Hid (Below w.heap.size w (w.alloc (.cells #[.int .i64 5, .int .i64 (-1), .int .i64 0, .int .i64 5, .int .i64 (-1), .int .i64 0] 47))) := below_al (Below.refl _ w) _
  clear hr
  go_enter Try.func7, Try.ntmps7
  go_wp2_with fail
  refine HM.out.mono ?_
  rintro e1 w1 ⟨lp, sp, S, L, tv, lv, tnv, tb, rfl, hl, hS, hL, hb⟩
  have HB1 := Lib.hid (below_trans HB.out hb)
  have HS := Lib.hid (lStep_any hl (by intro i hi; rcases (show i = 0 ∨ i = 1 by have : i < 2 := hi; omega) with rfl | rfl <;> decide) (by omega) (by simp) 3)
  have hp : pickO js2 (List.replicate 2 0) 2 3 = some 1 := by decide
  rw [hp] at HS
  have hSL : Hid (∀ k, S k ∨ L k → w.heap.size ≤ k) := fun k hk => by have := HB.out.size; rcases hk with h | h; exact Nat.le_trans this (hS k h); exact Nat.le_trans this (hL k h)
  clear hl hS hL hb hp
  unfold pp stepV at HS
  unfold pp
  go_wp2_with fail
  refine HS.out.mono ?_
  rintro e2 w2 ⟨rfl, L', tnv', hl2, hL2, hO2⟩
  have HT := Lib.hid (lSteps_any hl2)
  have HB2 : Hid (Below w.heap.size w w2) := HB1.out.trans (hO2.below HB1.out.size hSL.out)
  clear hl2 hL2 hO2
  unfold pp at HT
  go_wp2_with (go_at_call 16; refine HT.out.mono ?_; rintro e3 w3 ⟨rfl, rfl⟩)
  go_ret
  exact ⟨rfl, HB2.out⟩
end Go.Proofs.Ytamgngmbbbegpaa
