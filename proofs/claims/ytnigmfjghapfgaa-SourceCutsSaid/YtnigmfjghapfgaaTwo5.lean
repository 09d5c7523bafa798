/-
  Two sources apart ('Two'); the walk of reedbedlaw05.SourceCuts: it returns true; no condition beyond those that each theorem states.
-/
import Derived.Test.YtnigmfjghapfgaaAll1
namespace Go.Proofs.Ytnigmfjghapfgaa
open Go.RowKit Go.Rb

def Two (B : Nat) (T : Nat → Prop) (w : World) (x y : Nat) (s1 s2 : SS) : Prop :=
  B ≤ w.heap.size ∧ (∀ k, T k → k < w.heap.size) ∧ Wf s1 ∧ Wf s2 ∧ ∃ S1 S2, Rep w S1 x s1 ∧ Rep w S2 y s2 ∧ (∀ k, S1 k → B ≤ k ∧ ¬ T k ∧ ¬ S2 k) ∧ ∀ k, S2 k → B ≤ k ∧ ¬ T k
section
variable {B x y : Nat} {T T' U : Nat → Prop} {w w' : World} {s1 s2 : SS}
theorem Two.symm (h : Two B T w x y s1 s2) : Two B T w y x s2 s1 := by
  obtain ⟨h1, h2, h3, h4, S1, S2, h5, h6, h7, h8⟩ := h
  exact ⟨h1, h2, h4, h3, S2, S1, h6, h5, fun k hk => ⟨(h8 k hk).1, (h8 k hk).2, fun h => (h7 k h).2.2 hk⟩, fun k hk => ⟨(h7 k hk).1, (h7 k hk).2.1⟩⟩
theorem Two.less (h : Two B T w x y s1 s2) (hT : ∀ k, T' k → T k) : Two B T' w x y s1 s2 := by
  obtain ⟨h1, h2, h3, h4, S1, S2, h5, h6, h7, h8⟩ := h
  exact ⟨h1, fun k hk => h2 k (hT k hk), h3, h4, S1, S2, h5, h6, fun k hk => ⟨(h7 k hk).1, fun h => (h7 k hk).2.1 (hT k h), (h7 k hk).2.2⟩, fun k hk => ⟨(h8 k hk).1, fun h => (h8 k hk).2 (hT k h)⟩⟩
theorem Two.drewN (h : Two B T w x y s1 s2) (q : Nat) : Two B T (w.drewN q) x y s1 s2 := by
  obtain ⟨h1, h2, h3, h4, S1, S2, h5, h6, h7, h8⟩ := h
  exact ⟨h1, h2, h3, h4, S1, S2, h5.frame (T := NoT) ((Only.refl _ w).drewN q) (fun _ _ h => h), h6.frame (T := NoT) ((Only.refl _ w).drewN q) (fun _ _ h => h), h7, h8⟩
theorem Two.fst (h : Two B T w x y s1 s2) : InS B T w x s1 := by
  obtain ⟨h1, h2, h3, h4, S1, S2, h5, h6, h7, h8⟩ := h
  exact ⟨h1, h2, h3, S1, h5, fun k hk => ⟨(h7 k hk).1, (h7 k hk).2.1⟩⟩
theorem two_next (h : Two B T w x y s1 s2) (m : Int) (hl : s1.gv + s1.lf ≤ 100000) (hfl : s1.fl ≤ 9223372036854775807) (hm2 : m ≤ 9223372036854775807) :
    Calls Try.prog 9 #[pp x, .int .i64 m] w fun e w' => ∃ v xs er s', e = .returned (.tuple #[v, .int .i64 er]) ∧ NextO s1 m xs er s' ∧ Own w' 5 1 v xs.length (xs.map bV) ∧ Two B (fun k => T k ∨ v.ownBlock = some k) w' x y s' s2 ∧ Only (fun k => B ≤ k ∧ ¬ T k) w w' := by
  obtain ⟨h1, h2, h3, h4, S1, S2, h5, h6, h7, h8⟩ := h
  have hin : InS B (fun k => T k ∨ S2 k) w x s1 := ⟨h1, fun k hk => hk.elim (h2 k) (fun h => h6.lt h), h3, S1, h5, fun k hk => ⟨(h7 k hk).1, fun h => h.elim (h7 k hk).2.1 (h7 k hk).2.2⟩⟩
  refine (next_in hin m hl hfl hm2).mono ?_
  rintro e w' ⟨v, xs, er, s', e1, e2, e3, e4, ⟨i1, i2, i3, S3, i4, i5⟩, e6⟩
  refine ⟨v, xs, er, s', e1, e2, e3, ⟨i1, fun k hk => hk.elim (fun h => Nat.lt_of_lt_of_le (h2 k h) e6.size) (fun h => e3.lt h), i3, h4, S3, S2, i4, h6.frame e6 (fun k hk hh => hh.2 (.inr hk)), fun k hk => ⟨(i5 k hk).1, fun h => (i5 k hk).2 (h.elim (fun h => .inl (.inl h)) .inr), fun h => (i5 k hk).2 (.inl (.inr h))⟩, fun k hk => ⟨(h8 k hk).1, fun h => h.elim (h8 k hk).2 (fun h => by have := e4 k h; have := h6.lt hk; omega)⟩⟩, e6.mono fun k _ hk => ⟨hk.1, fun h => hk.2 (.inl h)⟩⟩
theorem two_new {p : Nat} {s : SS} (h : InS B T w p s) (bs : List UInt8) (zs : List Int) (fl : Int) (A Z : Option Addr) (n c m d B' : Nat) (hr : Rd w B' 1 A n (bs.map bV)) (hz : Rd w B' 1 Z m (zs.map iV)) (hn : n ≤ 100000) (hc : n ≤ c) (hm : m ≤ 1000) (hB' : B' ≤ w.heap.size) :
    Calls Try.prog 8 #[.slice A n c, .int .i64 fl, .slice Z m d] w fun e w' => ∃ q, e = .returned (pp q) ∧ Below w.heap.size w w' ∧ Two B T w' p q s ⟨cutP bs zs, 0, bs.length, fl⟩ := by
  refine (new_any bs zs fl A Z n c m d B' w hr hz hn hc hm hB').mono ?_
  rintro e w' ⟨q, S, e1, e2, e3, e4⟩
  obtain ⟨h1, h2, h3, S1, h4, h5⟩ := h
  exact ⟨q, e1, e2, Nat.le_trans h1 e2.size, fun k hk => Nat.lt_of_lt_of_le (h2 k hk) e2.size, h3, cutP_wf _ _ _, S1, S, h4.frame (Only.of_below e2) (fun k hk hh => by have := h4.lt hk; omega), e3, fun k hk => ⟨(h5 k hk).1, (h5 k hk).2, fun hh => by have := e4 k hh; have := h4.lt hk; omega⟩, fun k hk => ⟨Nat.le_trans h1 (e4 k hk), fun ht => by have := h2 k ht; have := e4 k hk; omega⟩⟩
end

theorem Inv.step {bs : List UInt8} {m er : Int} {s s' : SS} {x : List UInt8} (h : Inv bs (-1) s) (hw : Wf s) (ho : NextO s m x er s') (hm : 1 ≤ m) : Inv bs (-1) s' ∧ bs.take s'.gv = bs.take s.gv ++ x ∧ min (s.gv + 1) bs.length ≤ s'.gv ∧ x.length ≤ bs.length := by
  have ht := h.tot
  by_cases he : er = 0
  · subst he
    obtain ⟨h1, h2, h3, h4, h5, h6⟩ := h.next hw ho
    exact ⟨h1, h5, by omega, by omega⟩
  · obtain ⟨rfl, rfl, h3⟩ := ho.stays he
    refine ⟨h, by simp, ?_, by simp⟩
    rcases h3 hm with ⟨_, h4, _⟩ | ⟨_, _, h5⟩
    · rw [h.fl_] at h4; omega
    · omega

attribute [local irreducible] Go.wpQuiet
set_option maxRecDepth 20000 in
set_option maxHeartbeats 8000000 in
theorem cuts_main (bs : List UInt8) (zs ys : List Int) (A Z Y : Option Addr) (n c m d q e : Nat) (w : World) (hr : Rd w w.heap.size 1 A n (bs.map bV)) (hz : Rd w w.heap.size 1 Z m (zs.map iV)) (hy : Rd w w.heap.size 1 Y q (ys.map iV)) (hn : n ≤ 200) (hc : n ≤ c) (hm : m ≤ 10) (hq : q ≤ 10) :
    Calls Try.prog 6 #[.slice A n c, .slice Z m d, .slice Y q e] w fun e w' => e = .returned (.bool true) ∧ Below w.heap.size w w' := by
  have hA : Hid (∀ w, Calls Try.prog 7 #[] w fun e w' => e = .returned (.bool true) ∧ Below w.heap.size w w') := awake_any
  have hl : bs.length = n := by simpa using hr.1
  have HL := Lib.hid hl
  have hN1 : Hid (∀ W, Below w.heap.size w W → Calls Try.prog 8 #[.slice A n c, .int .i64 (-1), .slice Z m d] W fun e w' => ∃ p, e = .returned (.pointer (some ⟨p, 0, none⟩)) ∧ Below W.heap.size W w' ∧ InS w.heap.size NoT w' p ⟨cutP bs zs, 0, bs.length, -1⟩) := fun W hW =>
    newS_in (B := w.heap.size) bs zs (-1) A Z n c m d w.heap.size W (hr.below hW) (hz.below hW) (by omega) hc (by omega) hW.size hW.size (fun _ h => h.elim) (cutP_wf _ _ _)
  have hN2 : Hid (∀ W p, Below w.heap.size w W → InS w.heap.size NoT W p ⟨cutP bs zs, 0, bs.length, -1⟩ → Calls Try.prog 8 #[.slice A n c, .int .i64 (-1), .slice Y q e] W fun e w' => ∃ r, e = .returned (.pointer (some ⟨r, 0, none⟩)) ∧ Below W.heap.size W w' ∧ Two w.heap.size NoT w' p r ⟨cutP bs zs, 0, bs.length, -1⟩ ⟨cutP bs ys, 0, bs.length, -1⟩) := fun W p hW hI =>
    two_new hI bs ys (-1) A Y n c q e w.heap.size (hr.below hW) (hy.below hW) (by omega) hc (by omega) hW.size
  have hconvb : Hid (∀ W, Below w.heap.size w W → (convert 22 9 (.slice A n c)).run Try.prog W = .ok (.string ⟨bs.toArray⟩) W) := fun W hW => conv_rd (hr.below hW)
  have i1 : ¬ (200 : Int) < (n : Int) := by omega
  have i2 : ¬ (10 : Int) < (m : Int) := by omega
  have i3 : ¬ (10 : Int) < (q : Int) := by omega
  clear hr hz hy hl
  go_enter Try.func6, Try.ntmps6
  go_wp2_with (first
    | (go_at_call 7; refine (hA.out _).mono ?_; rintro e1 w1 ⟨rfl, hb1⟩; have HB1 := Lib.hid hb1; clear hb1)
    | (go_at_call 8; refine (hN2.out _ _ HB2.out HI2.out).mono ?_; rintro e3 w3 ⟨r, rfl, hb3, hi3⟩; have HB3 := Lib.hid (below_trans HB2.out hb3); have HI3 := Lib.hid hi3; clear hb3 hi3)
    | (go_at_call 8; refine (hN1.out _ HB1.out).mono ?_; rintro e2 w2 ⟨p, rfl, hb2, hi2⟩; have HB2 := Lib.hid (below_trans HB1.out hb2); have HI2 := Lib.hid hi2; clear hb2 hi2))
  go_loopw [9, 10, 11] (fun a b i wr => ∃ (j : Nat) (s1 s2 : SS), j ≤ n + 1 ∧ i = .int .i64 j ∧ a = .string ⟨(bs.take s1.gv).toArray⟩ ∧ b = .string ⟨(bs.take s2.gv).toArray⟩ ∧ min j n ≤ s1.gv ∧ min j n ≤ s2.gv ∧ Inv bs (-1) s1 ∧ Inv bs (-1) s2 ∧ Below w.heap.size w wr ∧ Two w.heap.size NoT wr p r s1 s2) (fun _ _ i _ => n + 1 - (intOf i).toNat)
  case atStart => exact ⟨0, _, _, by omega, rfl, by simp, by simp, by simp, by simp, inv_new bs zs _, inv_new bs ys _, HB3.out, HI3.out⟩
  case round =>
    obtain ⟨j, s1, s2, hj, rfl, rfl, rfl, hg1, hg2, hv1, hv2, hbw, hin⟩ := hrel
    have HV1 := Lib.hid hv1; have HV2 := Lib.hid hv2; have HI := Lib.hid hin; have HB := Lib.hid hbw
    by_cases hlt : j < n + 1
    · have i5 : (j : Int) ≤ (n : Int) := by omega
      have hjt : (j : Int).tmod 3 = ((j % 3 : Nat) : Int) := by rw [Int.tmod_eq_emod_of_nonneg (by omega)]; omega
      have hj3 : j % 3 < 3 := Nat.mod_lt _ (by omega)
      have hX : Hid (Calls Try.prog 9 #[.pointer (some ⟨p, 0, none⟩), .int .i64 (1 + ((j % 3 : Nat) : Int))] wr fun e w' => ∃ v xs er s', e = .returned (.tuple #[v, .int .i64 er]) ∧ NextO s1 (1 + ((j % 3 : Nat) : Int)) xs er s' ∧ Own w' 5 1 v xs.length (xs.map bV) ∧ Two w.heap.size (fun k => NoT k ∨ v.ownBlock = some k) w' p r s' s2 ∧ Only (fun k => w.heap.size ≤ k ∧ ¬ NoT k) wr w') :=
        two_next hin _ (by have := HV1.out.tot; have := HL.out; omega) (by rw [HV1.out.fl_]; omega) (by omega)
      have hY : Hid (∀ W T s, Two w.heap.size T W p r s s2 → Calls Try.prog 9 #[.pointer (some ⟨r, 0, none⟩), .int .i64 7] W fun e w' => ∃ v xs er s', e = .returned (.tuple #[v, .int .i64 er]) ∧ NextO s2 7 xs er s' ∧ Own w' 5 1 v xs.length (xs.map bV) ∧ Two w.heap.size (fun k => T k ∨ v.ownBlock = some k) w' r p s' s ∧ Only (fun k => w.heap.size ≤ k ∧ ¬ T k) W w') := fun W T s h =>
        two_next h.symm 7 (by have := HV2.out.tot; have := HL.out; omega) (by rw [HV2.out.fl_]; omega) (by omega)
      clear hv1 hv2 hin hbw
      generalize hj3q : j % 3 = j3 at *
      clear hj3q
      go_wp2_with (first
        | (go_at_call 9; refine (hY.out _ _ _ HI5.out).mono ?_; rintro e6 w6 ⟨v6, x6, er6, s6, rfl, ho6, hown6, hi6, hd6⟩; have HC5 := Lib.hid (HO5.out.only hd6 (fun k hk h => h.2 (.inr hk))); have HB6 := Lib.hid (HB5.out.trans (hd6.below HI5.out.1 (fun k hk => hk.1))); have HO6 := Lib.hid hown6; have HX6 := Lib.hid ho6; have HI6 := Lib.hid (hi6.symm.less (T' := NoT) (fun k hk => hk.elim)); clear ho6 hown6 hi6 hd6)
        | (go_at_call 9; refine hX.out.mono ?_; rintro e5 w5 ⟨v5, x5, er5, s5, rfl, ho5, hown5, hi5, hd5⟩; have HB5 := Lib.hid (HB.out.trans (hd5.below HI.out.1 (fun k hk => hk.1))); have HO5 := Lib.hid hown5; have HX5 := Lib.hid ho5; have HI5 := Lib.hid hi5; clear ho5 hown5 hi5 hd5))
      obtain ⟨hu1, hu2, hu3, hu4⟩ := HV1.out.step HI.out.2.2.1 HX5.out (by omega)
      obtain ⟨hy1, hy2, hy3, hy4⟩ := HV2.out.step HI.out.2.2.2.1 HX6.out (by omega)
      have hc1 := cat_ (bs.take s1.gv) x5
      have hc2 := cat_ (bs.take s2.gv) x6
      rw [← hu2] at hc1
      rw [← hy2] at hc2
      have hv5 : (convert 22 9 v5).run Try.prog w6.drew = .ok (.string ⟨x5.toArray⟩) w6.drew := conv_own (HC5.out.drewN 1)
      have hv6 : (convert 22 9 v6).run Try.prog w6.drew = .ok (.string ⟨x6.toArray⟩) w6.drew := conv_own (HO6.out.drewN 1)
      rw [HL.out] at hu4 hy4
      have hl0 := HL.out
      have hz5 : min s1.gv bs.length + x5.length ≤ 400 := by omega
      have hz6 : min s2.gv bs.length + x6.length ≤ 400 := by omega
      clear hl0
      have HU := Lib.hid hu1; have HU3 := Lib.hid hu3; have HY := Lib.hid hy1; have HY3 := Lib.hid hy3
      clear hu1 hu2 hu3 hy1 hy2 hy3
      go_region
      have HI7 : Hid (Two w.heap.size NoT w6.drew p r s5 s6) := HI6.out.drewN 1
      have HB7 : Hid (Below w.heap.size w w6.drew) := below_drewN HB6.out 1
      go_wp2
      go_roundw
      case rel => exact ⟨j + 1, s5, s6, by omega, by go_num, rfl, rfl, by have := HU3.out; rw [HL.out] at this; omega, by have := HY3.out; rw [HL.out] at this; omega, HU.out, HY.out, HB7.out, HI7.out⟩
      case measure => simp [intOf]; omega
    · obtain rfl : j = n + 1 := by omega
      have i5 : ¬ ((n + 1 : Nat) : Int) ≤ (n : Int) := by omega
      have h1 : s1.gv = n := by have := HV1.out.tot; have := HL.out; omega
      have h2 : s2.gv = n := by have := HV2.out.tot; have := HL.out; omega
      have h3 : s1.lf = 0 := by have := HV1.out.tot; have := HL.out; omega
      have hLf : Hid (Calls Try.prog 13 #[.pointer (some ⟨p, 0, none⟩)] wr fun e w' => e = .returned (.int .i64 0) ∧ wr = w') := by have := left_in hin.fst; rw [h3] at this; exact this
      have hGv : Hid (Calls Try.prog 12 #[.pointer (some ⟨r, 0, none⟩)] wr fun e w' => e = .returned (.int .i64 (n : Int)) ∧ wr = w') := by have := given_in hin.symm.fst; rw [h2] at this; exact this
      have ht : bs.take n = bs := List.take_of_length_le (by rw [HL.out]; exact Nat.le_refl _)
      have hcb := hconvb.out _ hbw
      rw [h1, h2, ht]
      clear hv1 hv2 hin hbw h1 h2 h3 ht
      generalize ((⟨bs.toArray⟩ : ByteArray)) = SB at *
      generalize hn1 : n + 1 = n1 at *
      clear hn1
      go_wp2_with (first
        | (go_at_call 13; refine hLf.out.mono ?_; rintro e5 w5 ⟨rfl, rfl⟩)
        | (go_at_call 12; refine hGv.out.mono ?_; rintro e5 w5 ⟨rfl, rfl⟩)
        | (rw [hcb]))
      go_ret
      exact ⟨by simp, HB.out⟩
set_option maxHeartbeats 2000000 in
theorem cuts_big (A Z Y : Option Addr) (n c m d q e : Nat) (w : World) (h : ¬ (n ≤ 200 ∧ m ≤ 10 ∧ q ≤ 10)) :
    Calls Try.prog 6 #[.slice A n c, .slice Z m d, .slice Y q e] w fun e w' => e = .returned (.bool true) ∧ Below w.heap.size w w' := by
  have hA : Hid (∀ w, Calls Try.prog 7 #[] w fun e w' => e = .returned (.bool true) ∧ Below w.heap.size w w') := awake_any
  by_cases h1 : n ≤ 200
  · have i1 : ¬ (200 : Int) < (n : Int) := by omega
    by_cases h2 : m ≤ 10
    · have i2 : ¬ (10 : Int) < (m : Int) := by omega
      have i3 : (10 : Int) < (q : Int) := by omega
      clear h
      go_enter Try.func6, Try.ntmps6
      go_wp2_with (first
        | (go_at_call 7; refine (hA.out _).mono ?_; rintro e2 w2 ⟨rfl, hb2⟩; have HB2 := Lib.hid (below_trans HB1.out hb2); clear hb2)
        | (go_at_call 7; refine (hA.out _).mono ?_; rintro e1 w1 ⟨rfl, hb1⟩; have HB1 := Lib.hid hb1; clear hb1))
      go_ret
      exact ⟨rfl, HB2.out⟩
    · have i2 : (10 : Int) < (m : Int) := by omega
      clear h
      go_enter Try.func6, Try.ntmps6
      go_wp2_with (first
        | (go_at_call 7; refine (hA.out _).mono ?_; rintro e2 w2 ⟨rfl, hb2⟩; have HB2 := Lib.hid (below_trans HB1.out hb2); clear hb2)
        | (go_at_call 7; refine (hA.out _).mono ?_; rintro e1 w1 ⟨rfl, hb1⟩; have HB1 := Lib.hid hb1; clear hb1))
      go_ret
      exact ⟨rfl, HB2.out⟩
  · have i1 : (200 : Int) < (n : Int) := by omega
    clear h
    go_enter Try.func6, Try.ntmps6
    go_wp2_with (first
      | (go_at_call 7; refine (hA.out _).mono ?_; rintro e2 w2 ⟨rfl, hb2⟩; have HB2 := Lib.hid (below_trans HB1.out hb2); clear hb2)
      | (go_at_call 7; refine (hA.out _).mono ?_; rintro e1 w1 ⟨rfl, hb1⟩; have HB1 := Lib.hid hb1; clear hb1))
    go_ret
    exact ⟨rfl, HB2.out⟩
theorem cuts_any (bs : List UInt8) (zs ys : List Int) (A Z Y : Option Addr) (n c m d q e : Nat) (w : World) (hr : Rd w w.heap.size 1 A n (bs.map bV)) (hz : Rd w w.heap.size 1 Z m (zs.map iV)) (hy : Rd w w.heap.size 1 Y q (ys.map iV)) (hc : n ≤ c) :
    Calls Try.prog 6 #[.slice A n c, .slice Z m d, .slice Y q e] w fun e w' => e = .returned (.bool true) ∧ Below w.heap.size w w' := by
  by_cases h : n ≤ 200 ∧ m ≤ 10 ∧ q ≤ 10
  · exact cuts_main bs zs ys A Z Y n c m d q e w hr hz hy h.1 hc h.2.1 h.2.2
  · exact cuts_big A Z Y n c m d q e w h
end Go.Proofs.Ytnigmfjghapfgaa
