/-
  The contract of split.All; no condition beyond those that each theorem states.
-/
import Derived.Test.YthgjfdjjnkgicaaPlain7b
namespace Go.Proofs.Ythgjfdjjnkgicaa
open Go.RowKit Go.Rb
attribute [local irreducible] Go.wpQuiet

theorem rcs_one : ∀ (l : List Rc), ∀ u ∈ rcs l, u.oneCell' = true
  | [], u, hu => by simp [rcs] at hu
  | x :: t, u, hu => by
    rw [show rcs (x :: t) = rc x ++ rcs t from rfl, List.mem_append] at hu
    rcases hu with h | h
    · simp only [rc, nV, List.mem_cons, List.not_mem_nil, or_false] at h
      rcases h with rfl | rfl | rfl <;> rfl
    · exact rcs_one t u h
theorem all_bad (m : Int) (b : Value) (w : World) (h : m < 1 ∨ 4096 < m) : Calls Try.prog 8 #[.int .i64 m, b] w fun e w' => e = .returned (.tuple #[.slice none 0 0, .int .i64 2]) ∧ w = w' := by
  have HN := Lib.hid (new_bad m w h)
  clear h
  go_enter Try.func8, Try.ntmps8
  go_wp2_with (go_at_call 11; refine HN.out.mono ?_; rintro e1 w1 ⟨rfl, rfl⟩)
  go_ret2
  exact ⟨rfl, rfl⟩
theorem only_p {w w' : World} {p : Nat} (h : Only (fun k => k = p) w w') {B : Nat} (hB : B ≤ p) (hp : p < w.heap.size) : Below B w w' := h.below (by omega) (fun k hk => by have hk : k = p := hk; omega)
set_option maxHeartbeats 4000000 in
theorem all_any (n : Nat) (x : List UInt8) (w : World) (h1 : 1 ≤ n) (h2 : n ≤ 4096) (hx : x.length ≤ 100000) :
    Calls Try.prog 8 #[.int .i64 (n : Int), .string (mk x)] w fun e w' => ∃ v, e = .returned (.tuple #[v, .int .i64 (al n x).2]) ∧ Own w' 32 3 v (al n x).1.length (rcs (al n x).1) ∧ (∀ k, v.ownBlock = some k → w.heap.size ≤ k) ∧ Below w.heap.size w w' := by
  obtain ⟨i0, hi0, hz0, hz1, hz2⟩ := info_parts infoR
  have HN := Lib.hid (new_ok n w h1 h2)
  have HWR := Lib.hid (fun (p : Nat) (W : World) (h : Rep W p (s0 n)) => write_any x W h rfl h2 (by simp [s0]; omega) (by simp [s0]) (by simp [s0]))
  obtain ⟨E1, hE1⟩ : ∃ e, wrE (s0 n) x = e := ⟨_, rfl⟩
  obtain ⟨O1, hO1⟩ : ∃ e, wrOut (s0 n) x = e := ⟨_, rfl⟩
  obtain ⟨S1, hS1⟩ : ∃ e, wrS (s0 n) x = e := ⟨_, rfl⟩
  rcases wrE_01 (s0 n) x with hE | hE
  · have HA := Lib.hid (al_ok n x hE)
    have hws := wrS_ok n x hE
    obtain ⟨hb1, hb2, hb3, hb4, -⟩ := recs_bd n x [] 0 0
    have HC := Lib.hid (fun (p : Nat) (W : World) (h : Rep W p S1) => close_any (s := S1) W h (by rw [← hS1, hws]; exact h2) (by rw [← hS1, hws]; simp at hb3 ⊢; omega) (by rw [← hS1, hws]; simp at hb1 ⊢; omega) (by rw [← hS1, hws]; simp at hb4 ⊢; omega))
    have hol : O1.length ≤ x.length := by rw [← hO1]; unfold wrOut; rw [if_neg (by simp [s0])]; exact hb2
    have hcl : (clOut S1).length ≤ 1 := by
      unfold clOut; split
      · simp
      · split
        · simp
        · split <;> simp
    obtain ⟨E2, hE2⟩ : ∃ e, clE S1 = e := ⟨_, rfl⟩
    obtain ⟨O2, hO2⟩ : ∃ e, clOut S1 = e := ⟨_, rfl⟩
    rw [hE1, hO1, hS1] at HWR
    rw [hE2, hO2] at HC
    rw [hO1, hS1, hE2, hO2] at HA
    rw [hO2] at hcl
    rw [hE1] at hE
    subst hE
    obtain ⟨R, hR⟩ : ∃ R, al n x = R := ⟨_, rfl⟩
    rw [hR] at HA ⊢
    have h63 : O1.length + O2.length ≤ maxLen := by simp only [maxLen]; omega
    have HOL := Lib.hid h63
    clear hE1 hO1 hS1 hE2 hO2 hws hb1 hb2 hb3 hb4 hR
    obtain ⟨l1, hl1⟩ : ∃ k, O1.length = k := ⟨_, rfl⟩
    obtain ⟨l2, hl2⟩ : ∃ k, O2.length = k := ⟨_, rfl⟩
    have HL := Lib.hid (And.intro hl1 hl2)
    rw [hl1, hl2] at HOL
    rw [hl1] at HWR hol
    rw [hl2] at HC hcl
    clear h63 hl1 hl2
    unfold pp at HN HWR HC
    go_enter Try.func8, Try.ntmps8
    go_wp2_with (first
      | (go_at_call 11; refine HN.out.mono ?_; rintro e1 w1 ⟨rfl, hb1, hr1, hsz1⟩; have HW1 := Lib.hid (And.intro hb1 (And.intro hr1 hsz1)); clear hb1 hr1 hsz1)
      | (go_at_call 12; refine (HWR.out _ w1 HW1.out.2.1).mono ?_; rintro e2 w2 ⟨v2, rfl, hown2, hk2, hw2⟩; obtain ⟨A2, cv2, rfl, -, -⟩ := hown2.len_; have HOWN2 := Lib.hid hown2; have HK2 := Lib.hid hk2; have HW2 := Lib.hid hw2; clear hown2 hk2 hw2)
      | (go_at_call 14; refine (HC.out _ w2 HW2.out.2).mono ?_; rintro e3 w3 ⟨v3, rfl, hown3, hk3, s3, hw3, -, -⟩; obtain ⟨A3, cv3, rfl, -, -⟩ := hown3.len_; have HOWN3 := Lib.hid hown3; have HK3 := Lib.hid hk3; have HW3 := Lib.hid hw3; have HOWN23 := Lib.hid (HOWN2.out.only hw3.1 (fun k hk h => by have := HK2.out k hk; have h : k = w.heap.size := h; have := HW1.out.2.2; omega)); clear hown3 hk3 hw3)
      | (at_builtin; go_loud (refine wpList_append_rd _ rfl (.tmp 33) (.tmp 34) _ rfl 32 i0 _ 3 32 Try.underlying23 hi0 hz0 hz1 hz2 rfl (by omega) (.slice A2 l1 cv2) l1 (rcs O1) rfl (by exact HOWN23.out) _ A3 l2 cv3 (rcs O2) rfl (by exact HOWN3.out.rd) (rcs_one O2) HOL.out (by omega) _ rfl ?_; intro v4 w4 hown4 hgrow4 hat4)))
    go_ret2
    rw [HA.out]
    simp only
    have hW := HW1.out
    have h12 : Below w.heap.size w w2 := hW.1.trans (only_p HW2.out.1 (Nat.le_refl _) (by omega))
    have h23 : Below w.heap.size w w3 := h12.trans (only_p HW3.out.1 (Nat.le_refl _) (by have := HW2.out.1.size; omega))
    refine ⟨v4, rfl, ?_, ?_, ?_⟩
    · rw [List.length_append, HL.out.1, HL.out.2, rcs_append]; exact hown4
    · intro k hk
      rcases hat4 with h | h
      · have := HK2.out k (h.symm.trans hk); omega
      · have h' := h.symm.trans hk
        simp at h'
        have := h23.size
        omega
    · exact Below.grown h23 hgrow4 h23.size (fun k hk => by have := HK2.out k hk; omega)
  · have HA := Lib.hid (al_bad n x hE)
    rw [hE1, hO1, hS1] at HWR
    rw [hO1] at HA
    rw [hE1] at hE
    subst hE
    obtain ⟨R, hR⟩ : ∃ R, al n x = R := ⟨_, rfl⟩
    rw [hR] at HA ⊢
    clear hE1 hO1 hS1 hR
    unfold pp at HN HWR
    go_enter Try.func8, Try.ntmps8
    go_wp2_with (first
      | (go_at_call 11; refine HN.out.mono ?_; rintro e1 w1 ⟨rfl, hb1, hr1, hsz1⟩; have HW1 := Lib.hid (And.intro hb1 (And.intro hr1 hsz1)); clear hb1 hr1 hsz1)
      | (go_at_call 12; refine (HWR.out _ w1 HW1.out.2.1).mono ?_; rintro e2 w2 ⟨v2, rfl, hown2, hk2, hw2⟩))
    go_ret2
    rw [HA.out]
    have hW := HW1.out
    exact ⟨v2, rfl, hown2, fun k hk => by have := hk2 k hk; omega, hW.1.trans (only_p hw2.1 (Nat.le_refl _) (by omega))⟩
end Go.Proofs.Ythgjfdjjnkgicaa
