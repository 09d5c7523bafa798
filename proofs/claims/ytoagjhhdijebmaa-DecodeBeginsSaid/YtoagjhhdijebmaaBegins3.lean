/-
  The law 'a beginning' (DecodeBegins): its walk; no condition beyond those that each theorem states.
-/
import Derived.Test.YtoagjhhdijebmaaKinds3
namespace Go.Proofs.Ytoagjhhdijebmaa
open Go.RowKit Go.Rb
attribute [local irreducible] Go.wpQuiet

theorem begins_plain (k : Int) (b r : List UInt8) (h1 : 0 ≤ k) (h2 : k ≤ 3) : ∃ z, T k (b ++ r) = (wrS (st0 k) b).1 ++ z := by
  have hT : T k (b ++ r) = refT k (b ++ r) := by unfold T; rw [if_pos ⟨h1, h2⟩]
  rw [hT]
  unfold refT
  by_cases hk : k = 0
  · subst hk
    rw [if_pos rfl]
    by_cases hs : sureB b = true
    · have hm := mark_more r hs
      have hmk : mkK (b ++ r) = mkK b := by unfold mkK; rw [hm]
      have hb := mkK_ok b
      have e : (wrS (st0 0) b).1 = (D (mkK b).1 false (b.drop (mkK b).2.toNat)).1 := by simp [wrS, st0, takeS, settleS, hs]
      rw [hmk, e, List.drop_append_of_le_length (by omega), D_more (mkK b).1 hb.1 r _ (b.drop (mkK b).2.toNat) (Nat.le_refl _)]
      exact ⟨_, rfl⟩
    · have e : (wrS (st0 0) b).1 = [] := by simp [wrS, st0, takeS, settleS, hs]
      rw [e]
      exact ⟨_, rfl⟩
  · rw [if_neg hk]
    have e : (wrS (st0 k) b).1 = (D k false b).1 := by simp [wrS, st0, takeS, settleS, hk]
    rw [e, D_more k (by unfold okK; omega) r _ b (Nat.le_refl _)]
    exact ⟨_, rfl⟩
theorem ext_take (a z : List UInt8) : (⟨(a ++ z).toArray⟩ : ByteArray).extract 0 a.length = ⟨a.toArray⟩ := by
  apply ByteArray.ext
  rw [ByteArray.data_extract]
  apply Array.toList_inj.1
  rw [Array.toList_extract]
  simp [List.extract]
set_option maxRecDepth 20000 in
set_option maxHeartbeats 8000000 in
theorem begins_small (k : Int) (x y : List UInt8) (A A2 : Option Addr) (n c n2 c2 : Nat) (w : World) (hk1 : 0 ≤ k) (hk2 : k ≤ 3) (hr : Rd w w.heap.size 1 A n (x.map bV)) (hr2 : Rd w w.heap.size 1 A2 n2 (y.map bV)) (hn : n ≤ 100) (hn2 : n2 ≤ 100) :
    Calls Try.prog 6 #[.int .i64 k, .slice A n c, .slice A2 n2 c2] w fun e w' => e = .returned (.bool true) ∧ Below w.heap.size w w' := by
  have HA : Hid (∀ w, Calls Try.prog 7 #[] w fun e w' => e = .returned (.bool true) ∧ Below w.heap.size w w') := awake_any
  obtain ⟨i0, hi0, hz0, hz1, hz2⟩ := info_parts bInfo
  have hxl : x.length = n := by simpa using hr.1
  have hyl : y.length = n2 := by simpa using hr2.1
  have HR := Lib.hid hr
  have HR' := Lib.hid hr2
  have HX := Lib.hid (one_bytes x)
  have HY := Lib.hid (one_bytes y)
  have HN := Lib.hid (fun W => new_ok k W hk1 hk2)
  have hln : (wrS (st0 k) x).1.length ≤ 4 * x.length := by have := (take_len false { st0 k with held := (st0 k).held ++ x }).2; simpa [st0, wrS] using this
  have HW1 := Lib.hid (fun (p : Nat) (W : World) (h : Rep W p (st0 k)) (hB : Below w.heap.size w W) => dwrite_any x A n c w.heap.size W h (hr.below hB) hB.size rfl (fun h => by simp [st0] at h; show k = 1 ∨ k = 2 ∨ k = 3; omega) (by simp [st0]; omega))
  obtain ⟨z, hz⟩ := begins_plain k x y hk1 hk2
  have HD : Hid (∀ A c W, Rd W W.heap.size 1 A (n + n2) ((x ++ y).map bV) → Calls Try.prog 13 #[.int .i64 k, .slice A (n + n2) c] W fun e w' => e = .returned (.string ⟨(T k (x ++ y)).toArray⟩) ∧ Below W.heap.size W w') := fun A c W hr => dtext_any k (x ++ y) A (n + n2) c W hr (by omega)
  have htl := T_len k (x ++ y)
  rw [hz] at HD htl
  generalize wrS (st0 k) x = S1 at *
  obtain ⟨s1, S1'⟩ := S1
  simp only at HD HW1 hln hz htl
  have hex := ext_take s1 z
  have hz1' : (⟨s1.toArray⟩ : ByteArray).size = s1.length := rfl
  have hz2' : (⟨(s1 ++ z).toArray⟩ : ByteArray).size = s1.length + z.length := List.length_append
  rw [List.length_append, List.length_append, hxl, hyl] at htl
  obtain ⟨l1, hl1⟩ : ∃ m, s1.length = m := ⟨_, rfl⟩
  obtain ⟨lz, hlz⟩ : ∃ m, z.length = m := ⟨_, rfl⟩
  rw [hl1] at hex hz1' hz2' hln htl
  rw [hlz] at hz2' htl
  have i1 : ¬ k < 0 := by omega
  have i2 : ¬ 3 < k := by omega
  have i3 : ¬ (100 : Int) < (n : Int) := by omega
  have i4 : ¬ (100 : Int) < (n2 : Int) := by omega
  have i5 : (l1 : Int) ≤ (l1 : Int) + (lz : Int) := by omega
  have HOnly : Hid (∀ (q : Nat) (Wa Wb Wc : World), w.heap.size ≤ q → Below w.heap.size w Wa → Wa.heap.size ≤ Wb.heap.size → Only (fun k => k = q) Wa Wb → Below w.heap.size w Wb) := fun q Wa Wb Wc h1 h2 h3 h4 => h2.trans ⟨h4.os, h4.tape, h4.output, h4.size, fun k hk => h4.block k (by have := h2.size; omega) (fun h => by omega)⟩
  have HEX := Lib.hid hex
  have H63a := Lib.hid (show 0 + n ≤ maxLen by simp only [maxLen]; omega)
  have H63b := Lib.hid (show n + n2 ≤ maxLen by simp only [maxLen]; omega)
  unfold pp at HN HW1
  unfold st0 at HW1
  clear hr hr2 hxl hyl hk1 hk2 hz hl1 hlz
  generalize (⟨s1.toArray⟩ : ByteArray) = b1 at *
  generalize (⟨(s1 ++ z).toArray⟩ : ByteArray) = b2 at *
  go_enter Try.func6, Try.ntmps6
  go_wp2_with (first
    | (go_at_call 7; refine (HA.out _).mono ?_; rintro e1 w1 ⟨rfl, hb1⟩; have HB1 := Lib.hid hb1; clear hb1)
    | (go_at_call 8; refine (HN.out _).mono ?_; rintro e2 w2 ⟨rfl, hb2, hr2, -⟩; have HB2 := Lib.hid (below_trans HB1.out hb2); have HR2 := Lib.hid hr2; have HQ := Lib.hid HB1.out.size; clear hb2 hr2)
    | (go_at_call 9; (with_reducible refine (HW1.out _ _ HR2.out HB2.out).mono ?_); rintro e3 w3 ⟨rfl, hw3⟩; have HB3 := Lib.hid (HOnly.out _ _ _ w HQ.out HB2.out hw3.1.size hw3.1); clear hw3 HR2 HW1)
    | (at_builtin; go_loud (refine wpList_append_rd _ rfl (.tmp 43) (.tmp 44) _ rfl 5 i0 _ 1 1 Try.underlying22 hi0 hz0 hz1 hz2 rfl (by omega) (.slice (some ⟨w3.heap.size, 0, none⟩) 0 0) 0 [] rfl (by exact Own.lit w3 5 1 0 #[] rfl (by decide)) _ A n c (x.map bV) rfl (by exact HR.out.below (below_al HB3.out _)) HX.out H63a.out (by omega) _ rfl ?_; intro v4 w4 hown4 hgrow4 hat4; rw [Nat.zero_add, List.nil_append] at hown4; have HO4 := Lib.hid hown4; have HB34 := Lib.hid (Below.grown (below_al (Below.refl _ w3) (.cells #[] 5)) hgrow4 (by simp) (by simp [Value.ownBlock])); have HB4 := Lib.hid (below_trans HB3.out HB34.out); have HK4 : Hid (∀ k, v4.ownBlock = some k → w.heap.size ≤ k) := (fun k hk => by have h0 := HB3.out.size; rcases hat4 with h | h; (have := h.symm.trans hk; simp [Value.ownBlock] at this; omega); (have := h.symm.trans hk; simp at this; omega)); clear hown4 hgrow4 hat4))
    | (at_builtin; go_loud (refine wpList_append_rd _ rfl (.tmp 45) (.tmp 46) _ rfl 5 i0 _ 1 1 Try.underlying22 hi0 hz0 hz1 hz2 rfl (by omega) v4 n (x.map bV) rfl (by exact HO4.out) _ A2 n2 c2 (y.map bV) rfl (by exact HR'.out.below HB4.out) HY.out H63b.out (by omega) _ rfl ?_; intro v5 w5 hown5 hgrow5 hat5; rw [← List.map_append] at hown5; obtain ⟨A5, c5, rfl, -, -⟩ := hown5.len_; have HO5 := Lib.hid hown5; have HB5 := Lib.hid (Below.grown HB4.out hgrow5 HB4.out.size (fun k hk => HK4.out k hk)); clear hown5 hgrow5 hat5))
    | (go_at_call 13; (with_reducible refine (HD.out _ _ _ HO5.out.rd).mono ?_); rintro e6 w6 ⟨rfl, hb6⟩; have HB6 := Lib.hid (below_trans HB5.out hb6); clear hb6))
  go_ret
  exact ⟨by simp, HB6.out⟩
set_option maxRecDepth 20000 in
set_option maxHeartbeats 4000000 in
theorem begins_big (k : Int) (A A2 : Option Addr) (n c n2 c2 : Nat) (w : World) (h : ¬ (0 ≤ k ∧ k ≤ 3 ∧ n ≤ 100 ∧ n2 ≤ 100)) : Calls Try.prog 6 #[.int .i64 k, .slice A n c, .slice A2 n2 c2] w fun e w' => e = .returned (.bool true) ∧ Below w.heap.size w w' := by
  have HA : Hid (∀ w, Calls Try.prog 7 #[] w fun e w' => e = .returned (.bool true) ∧ Below w.heap.size w w') := awake_any
  have hc : k < 0 ∨ (¬ k < 0 ∧ 3 < k) ∨ (¬ k < 0 ∧ ¬ 3 < k ∧ (100 : Int) < (n : Int)) ∨ (¬ k < 0 ∧ ¬ 3 < k ∧ ¬ (100 : Int) < (n : Int) ∧ (100 : Int) < (n2 : Int)) := by omega
  clear h
  rcases hc with i1 | ⟨i1, i2⟩ | ⟨i1, i2, i3⟩ | ⟨i1, i2, i3, i4⟩
  all_goals
    go_enter Try.func6, Try.ntmps6
    go_wp2_with (first
      | (go_at_call 7; refine (HA.out _).mono ?_; rintro e2 w2 ⟨rfl, hb2⟩; have HB2 := Lib.hid (below_trans HB1.out hb2); clear hb2)
      | (go_at_call 7; refine (HA.out _).mono ?_; rintro e1 w1 ⟨rfl, hb1⟩; have HB1 := Lib.hid hb1; clear hb1))
    go_ret
    exact ⟨rfl, HB2.out⟩
theorem begins_any (k : Int) (x y : List UInt8) (A A2 : Option Addr) (n c n2 c2 : Nat) (w : World) (hr : Rd w w.heap.size 1 A n (x.map bV)) (hr2 : Rd w w.heap.size 1 A2 n2 (y.map bV)) :
    Calls Try.prog 6 #[.int .i64 k, .slice A n c, .slice A2 n2 c2] w fun e w' => e = .returned (.bool true) ∧ Below w.heap.size w w' := by
  by_cases h : 0 ≤ k ∧ k ≤ 3 ∧ n ≤ 100 ∧ n2 ≤ 100
  · exact begins_small k x y A A2 n c n2 c2 w h.1 h.2.1 hr hr2 h.2.2.1 h.2.2.2
  · exact begins_big k A A2 n c n2 c2 w h
end Go.Proofs.Ytoagjhhdijebmaa
