/-
  The walk of reedbedlaw05.SourceAll: it returns true; no condition beyond those that each theorem states.
-/
import Derived.Test.YtnigmfjghapfgaaAwake5
import Derived.Test.YtnigmfjghapfgaaCut2
namespace Go.Proofs.Ytnigmfjghapfgaa
open Go.RowKit Go.Rb

/-- Where a walk through a source has come to. -/
structure Inv (bs : List UInt8) (fl : Int) (s : SS) : Prop where
  fl_ : s.fl = fl
  fa : s.ps.flatten = bs.drop s.gv
  tot : s.gv + s.lf = bs.length
  bd : 0 ≤ fl → (s.gv : Int) ≤ fl
theorem inv_new (bs : List UInt8) (zs : List Int) (fl : Int) : Inv bs fl ⟨cutP bs zs, 0, bs.length, fl⟩ := ⟨rfl, by show (cutP bs zs).flatten = bs.drop 0; rw [cutP_flat]; rfl, by simp, fun h => by simpa using h⟩
theorem Inv.next {bs : List UInt8} {fl m : Int} {s s' : SS} {x : List UInt8} (h : Inv bs fl s) (hw : Wf s) (ho : NextO s m x 0 s') : Inv bs fl s' ∧ 1 ≤ x.length ∧ (x.length : Int) ≤ m ∧ s'.gv = s.gv + x.length ∧ bs.take s'.gv = bs.take s.gv ++ x ∧ x.length ≤ s.lf := by
  obtain ⟨h1, h2, h3, h4, h5, h6, h7, h8⟩ := ho.gives hw rfl
  have ht : s.ps.flatten.take x.length = (bs.drop s.gv).take x.length := by rw [h.fa]
  refine ⟨⟨ho.fl_.trans h.fl_, by rw [h5, h.fa, h6, List.drop_drop], by have := h.tot; omega, fun hf => ?_⟩, h2, h3, h6, ?_, by omega⟩
  · have := (h8 (by rw [h.fl_]; exact hf)).2
    rw [h.fl_] at this; exact this
  · rw [h6, List.take_add, ← ht, ← h4]
/-- What is wanted, and the last error. -/
def Want (bs : List UInt8) (fl : Int) (want : List UInt8) (last : Int) : Prop := (0 ≤ fl ∧ fl ≤ bs.length ∧ want = bs.take fl.toNat ∧ last = 11) ∨ (¬ (0 ≤ fl ∧ fl ≤ bs.length) ∧ want = bs ∧ last = 19)
theorem Inv.stop {bs want : List UInt8} {fl m er last : Int} {s s' : SS} {x : List UInt8} (h : Inv bs fl s) (hw : Wf s) (ho : NextO s m x er s') (hm : 1 ≤ m) (he : er ≠ 0) (hW : Want bs fl want last) : s' = s ∧ er = last ∧ bs.take s.gv = want ∧ ∀ k : Int, 1 ≤ k → NextO s k [] last s := by
  obtain ⟨_, h2, h3⟩ := ho.stays he
  have ht := h.tot
  rcases h3 hm with ⟨rfl, h4, h5⟩ | ⟨rfl, h4, h5⟩
  · rw [h.fl_] at h4 h5
    have hb := h.bd h4
    rcases hW with ⟨w1, w2, rfl, rfl⟩ | ⟨w1, rfl, rfl⟩
    · refine ⟨h2, rfl, ?_, fun k hk => .fail hk (by rw [h.fl_]; exact h4) (by rw [h.fl_]; exact h5)⟩
      have : fl.toNat = s.gv := by omega
      rw [this]
    · exact absurd ⟨h4, by omega⟩ w1
  · rw [h.fl_] at h4
    rcases hW with ⟨w1, w2, rfl, rfl⟩ | ⟨w1, rfl, rfl⟩
    · exact absurd ⟨w1, by omega⟩ h4
    · refine ⟨h2, rfl, List.take_of_length_le (by omega), fun k hk => .none hk (by rw [h.fl_]; exact h4) h5⟩

attribute [local irreducible] Go.wpQuiet

set_option maxRecDepth 20000 in
set_option maxHeartbeats 8000000 in
theorem all_zero (bs : List UInt8) (zs : List Int) (fl : Int) (A Z : Option Addr) (n c d : Nat) (w : World) (hr : Rd w w.heap.size 1 A n (bs.map bV)) (hz : Rd w w.heap.size 1 Z 0 (zs.map iV)) (hn : n ≤ 200) (hc : n ≤ c) (hfl2 : fl ≤ 9223372036854775807) (hzr : ∀ z ∈ zs, z ≤ 9223372036854775807) :
    Calls Try.prog 3 #[.slice A n c, .int .i64 fl, .slice Z 0 d] w fun e w' => e = .returned (.bool true) ∧ Below w.heap.size w w' := by
  have hA : Hid (∀ w, Calls Try.prog 7 #[] w fun e w' => e = .returned (.bool true) ∧ Below w.heap.size w w') := awake_any
  have HR := Lib.hid hr; have HZ := Lib.hid hz; have HZR := Lib.hid hzr
  have hl : bs.length = n := by simpa using hr.1
  have HL := Lib.hid hl
  have hN : Hid (∀ W, Below w.heap.size w W → Calls Try.prog 8 #[.slice A n c, .int .i64 fl, .slice Z 0 d] W fun e w' => ∃ p, e = .returned (.pointer (some ⟨p, 0, none⟩)) ∧ Below W.heap.size W w' ∧ InS w.heap.size NoT w' p ⟨cutP bs zs, 0, bs.length, fl⟩) := fun W hW =>
    newS_in (B := w.heap.size) bs zs fl A Z n c 0 d w.heap.size W (hr.below hW) (hz.below hW) (by omega) hc (by omega) hW.size hW.size (fun _ h => h.elim) (cutP_wf _ _ _)
  have i1 : ¬ (200 : Int) < (n : Int) := by omega
  obtain ⟨SB, hSB⟩ : ∃ SB : ByteArray, SB = ⟨bs.toArray⟩ := ⟨_, rfl⟩
  have HSB := Lib.hid hSB
  have hsz : SB.size = n := by rw [hSB]; exact hl
  have hconvb : Hid (∀ W, Below w.heap.size w W → (convert 22 9 (.slice A n c)).run Try.prog W = .ok (.string SB) W) := fun W hW => by rw [HSB.out]; exact conv_rd (hr.below hW)
  clear hr hz hl hzr hSB
  by_cases hw : 0 ≤ fl ∧ fl ≤ n
  · have i3 : 0 ≤ fl := hw.1
    have i4 : fl ≤ (n : Int) := hw.2
    have HW : Hid (Want bs fl (bs.take fl.toNat) 11) := .inl ⟨by omega, by rw [HL.out]; omega, rfl, rfl⟩
    have HX : Hid (SB.extract 0 fl.toNat = ⟨(bs.take fl.toNat).toArray⟩) := ba_eq _ _ (by rw [ba_extract, HSB.out]; rfl)
    clear hw
    generalize hwant : bs.take fl.toNat = want at *
    clear hwant
    go_enter Try.func3, Try.ntmps3
    go_wp2_with (first
      | (go_at_call 7; refine (hA.out _).mono ?_; rintro e1 w1 ⟨rfl, hb1⟩; have HB1 := Lib.hid hb1; clear hb1)
      | (go_at_call 8; refine (hN.out _ HB1.out).mono ?_; rintro e2 w2 ⟨p, rfl, hb2, hi2⟩; have HB2 := Lib.hid (below_trans HB1.out hb2); have HI2 := Lib.hid hi2; clear hb2 hi2)
      | (rw [hconvb.out _ HB2.out]))
    rw [HX.out]
    clear HX
    go_loopw [8, 11] (fun g i wr => ∃ (j : Nat) (s : SS), j ≤ s.gv ∧ i = .int .i64 j ∧ g = .string ⟨(bs.take s.gv).toArray⟩ ∧ s.gv ≤ n ∧ Inv bs fl s ∧ Below w.heap.size w wr ∧ InS w.heap.size NoT wr p s) (fun _ i _ => n + 1 - (intOf i).toNat)
    case atStart => exact ⟨0, _, by simp, rfl, by simp, by simp, inv_new bs zs fl, HB2.out, HI2.out⟩
    case round =>
      obtain ⟨j, s, hj, rfl, rfl, hgn, hinv, hbw, hin⟩ := hrel
      have HINV := Lib.hid hinv; have HI := Lib.hid hin; have HB := Lib.hid hbw
      have i5 : (j : Int) ≤ (n : Int) := by omega
      have hNx : Hid (∀ ask : Int, ask ≤ 9223372036854775807 → Calls Try.prog 9 #[.pointer (some ⟨p, 0, none⟩), .int .i64 ask] wr fun e w' => ∃ v x er s', e = .returned (.tuple #[v, .int .i64 er]) ∧ NextO s ask x er s' ∧ Own w' 5 1 v x.length (x.map bV) ∧ (∀ k, v.ownBlock = some k → wr.heap.size ≤ k) ∧ InS w.heap.size (fun k => NoT k ∨ v.ownBlock = some k) w' p s' ∧ Only (fun k => w.heap.size ≤ k ∧ ¬ NoT k) wr w') := fun ask h2 =>
        next_in hin ask (by have := HINV.out.tot; have := HL.out; omega) (by rw [HINV.out.fl_]; exact hfl2) h2
      clear hinv hin hbw
      obtain ⟨ask, hask⟩ : ∃ ask : Int, ask = 1 := ⟨_, rfl⟩
      have hask1 : 1 ≤ ask := by omega
      have hask2 : ask ≤ 9223372036854775807 := by omega
      have hNx := Lib.hid (hNx.out ask hask2)
      subst hask
      clear hask2
      go_wp2_with fail
      refine hNx.out.mono ?_
      rintro e3 w3 ⟨v3, x3, er, s3, rfl, ho3, hown3, -, hi3, hd3⟩
      have hd3' : Below w.heap.size wr w3 := hd3.below HI.out.1 (fun k hk => hk.1)
      have HB3 := Lib.hid (HB.out.trans hd3')
      have HI3 := Lib.hid (hi3.less (T' := NoT) (fun k hk => hk.elim))
      have HO3 := Lib.hid ho3
      clear ho3 hi3 hd3 hd3'
      by_cases he : er = 0
      · subst he
        obtain ⟨hinv3, hx1, hx2, hgv3, htk3, hx4⟩ := HINV.out.next HI.out.wf HO3.out
        have HINV3 := Lib.hid hinv3; have HTK3 := Lib.hid htk3
        have hconv := conv_own hown3
        obtain ⟨A3, c3, rfl, -, -⟩ := hown3.len_
        have hxl3 : x3.length ≤ 200 := by have := HINV.out.tot; have := HL.out; omega
        have hxz : ((x3.length : Int) == 0) = false := by rw [beq_eq_false_iff_ne]; omega
        have hxm : ¬ (1 : Int) < (x3.length : Int) := by omega
        have hcat := cat_ (bs.take s.gv) x3
        rw [← HTK3.out] at hcat
        have HGV := Lib.hid hgv3
        clear hown3 hinv3 htk3 hgv3
        generalize hxl : x3.length = xl at *
        go_wp2
        go_roundw
        case rel => exact ⟨j + 1, s3, by have := HGV.out; omega, by go_num, rfl, by have := HINV3.out.tot; have := HL.out; omega, HINV3.out, HB3.out, HI3.out⟩
        case measure => simp [intOf]; omega
      · obtain ⟨rfl, rfl, hgw, hns⟩ := HINV.out.stop HI.out.wf HO3.out hask1 he HW.out
        have hbn : ((11 : Int) != 0) = true := by decide
        clear he
        have HGW := Lib.hid hgw
        have hN5 : Hid (∀ X T (k : Int), 1 ≤ k → k ≤ 100 → InS w.heap.size T X p s3 → Calls Try.prog 9 #[.pointer (some ⟨p, 0, none⟩), .int .i64 k] X fun e w' => ∃ v, e = .returned (.tuple #[v, .int .i64 11]) ∧ InS w.heap.size T w' p s3 ∧ Below w.heap.size X w') := fun X T k h1 h2 h =>
          (next_at h (hns k h1) (by have := HINV.out.tot; have := HL.out; omega) (by rw [HINV.out.fl_]; exact hfl2) (by omega)).mono fun e w' ⟨v, h3, _, _, h4, h5⟩ => ⟨v, h3, h4.less (fun k hk => .inl hk), h5.below h.1 (fun k hk => hk.1)⟩
        clear hgw hns hown3
        rw [HGW.out]
        go_wp2_with (first
          | (go_at_call 9; refine (hN5.out _ _ 1 (by omega) (by omega) HI4.out).mono ?_; rintro e5 w5 ⟨v5, rfl, hi5, hb5⟩; have HB5 := Lib.hid (HB4.out.trans hb5); clear hi5 hb5)
          | (go_at_call 9; refine (hN5.out _ _ 5 (by omega) (by omega) HI3.out).mono ?_; rintro e4 w4 ⟨v4, rfl, hi4, hb4⟩; have HI4 := Lib.hid hi4; have HB4 := Lib.hid (HB3.out.trans hb4); clear hi4 hb4))
        go_ret
        exact ⟨by simp, HB5.out⟩
  · have HW : Hid (Want bs fl bs 19) := .inr ⟨by rw [HL.out]; exact hw, rfl, rfl⟩
    have hSB := HSB.out
    by_cases h3 : 0 ≤ fl
    · have i4 : ¬ fl ≤ (n : Int) := fun h => hw ⟨h3, h⟩
      clear hw
      obtain ⟨want, hwant⟩ : ∃ want, want = bs := ⟨_, rfl⟩
      rw [← hwant] at hSB
      rw [show Want bs fl bs 19 = Want bs fl want 19 by rw [hwant]] at HW
      clear hwant
      go_enter Try.func3, Try.ntmps3
      go_wp2_with (first
        | (go_at_call 7; refine (hA.out _).mono ?_; rintro e1 w1 ⟨rfl, hb1⟩; have HB1 := Lib.hid hb1; clear hb1)
        | (go_at_call 8; refine (hN.out _ HB1.out).mono ?_; rintro e2 w2 ⟨p, rfl, hb2, hi2⟩; have HB2 := Lib.hid (below_trans HB1.out hb2); have HI2 := Lib.hid hi2; clear hb2 hi2)
        | (rw [hconvb.out _ HB2.out]))
      try rw [hSB]
      clear hSB
      go_loopw [8, 11] (fun g i wr => ∃ (j : Nat) (s : SS), j ≤ s.gv ∧ i = .int .i64 j ∧ g = .string ⟨(bs.take s.gv).toArray⟩ ∧ s.gv ≤ n ∧ Inv bs fl s ∧ Below w.heap.size w wr ∧ InS w.heap.size NoT wr p s) (fun _ i _ => n + 1 - (intOf i).toNat)
      case atStart => exact ⟨0, _, by simp, rfl, by simp, by simp, inv_new bs zs fl, HB2.out, HI2.out⟩
      case round =>
        obtain ⟨j, s, hj, rfl, rfl, hgn, hinv, hbw, hin⟩ := hrel
        have HINV := Lib.hid hinv; have HI := Lib.hid hin; have HB := Lib.hid hbw
        have i5 : (j : Int) ≤ (n : Int) := by omega
        have hNx : Hid (∀ ask : Int, ask ≤ 9223372036854775807 → Calls Try.prog 9 #[.pointer (some ⟨p, 0, none⟩), .int .i64 ask] wr fun e w' => ∃ v x er s', e = .returned (.tuple #[v, .int .i64 er]) ∧ NextO s ask x er s' ∧ Own w' 5 1 v x.length (x.map bV) ∧ (∀ k, v.ownBlock = some k → wr.heap.size ≤ k) ∧ InS w.heap.size (fun k => NoT k ∨ v.ownBlock = some k) w' p s' ∧ Only (fun k => w.heap.size ≤ k ∧ ¬ NoT k) wr w') := fun ask h2 =>
          next_in hin ask (by have := HINV.out.tot; have := HL.out; omega) (by rw [HINV.out.fl_]; exact hfl2) h2
        clear hinv hin hbw
        obtain ⟨ask, hask⟩ : ∃ ask : Int, ask = 1 := ⟨_, rfl⟩
        have hask1 : 1 ≤ ask := by omega
        have hask2 : ask ≤ 9223372036854775807 := by omega
        have hNx := Lib.hid (hNx.out ask hask2)
        subst hask
        clear hask2
        go_wp2_with fail
        refine hNx.out.mono ?_
        rintro e3 w3 ⟨v3, x3, er, s3, rfl, ho3, hown3, -, hi3, hd3⟩
        have hd3' : Below w.heap.size wr w3 := hd3.below HI.out.1 (fun k hk => hk.1)
        have HB3 := Lib.hid (HB.out.trans hd3')
        have HI3 := Lib.hid (hi3.less (T' := NoT) (fun k hk => hk.elim))
        have HO3 := Lib.hid ho3
        clear ho3 hi3 hd3 hd3'
        by_cases he : er = 0
        · subst he
          obtain ⟨hinv3, hx1, hx2, hgv3, htk3, hx4⟩ := HINV.out.next HI.out.wf HO3.out
          have HINV3 := Lib.hid hinv3; have HTK3 := Lib.hid htk3
          have hconv := conv_own hown3
          obtain ⟨A3, c3, rfl, -, -⟩ := hown3.len_
          have hxl3 : x3.length ≤ 200 := by have := HINV.out.tot; have := HL.out; omega
          have hxz : ((x3.length : Int) == 0) = false := by rw [beq_eq_false_iff_ne]; omega
          have hxm : ¬ (1 : Int) < (x3.length : Int) := by omega
          have hcat := cat_ (bs.take s.gv) x3
          rw [← HTK3.out] at hcat
          have HGV := Lib.hid hgv3
          clear hown3 hinv3 htk3 hgv3
          generalize hxl : x3.length = xl at *
          go_wp2
          go_roundw
          case rel => exact ⟨j + 1, s3, by have := HGV.out; omega, by go_num, rfl, by have := HINV3.out.tot; have := HL.out; omega, HINV3.out, HB3.out, HI3.out⟩
          case measure => simp [intOf]; omega
        · obtain ⟨rfl, rfl, hgw, hns⟩ := HINV.out.stop HI.out.wf HO3.out hask1 he HW.out
          have hbn : ((19 : Int) != 0) = true := by decide
          clear he
          have HGW := Lib.hid hgw
          have hN5 : Hid (∀ X T (k : Int), 1 ≤ k → k ≤ 100 → InS w.heap.size T X p s3 → Calls Try.prog 9 #[.pointer (some ⟨p, 0, none⟩), .int .i64 k] X fun e w' => ∃ v, e = .returned (.tuple #[v, .int .i64 19]) ∧ InS w.heap.size T w' p s3 ∧ Below w.heap.size X w') := fun X T k h1 h2 h =>
            (next_at h (hns k h1) (by have := HINV.out.tot; have := HL.out; omega) (by rw [HINV.out.fl_]; exact hfl2) (by omega)).mono fun e w' ⟨v, h3, _, _, h4, h5⟩ => ⟨v, h3, h4.less (fun k hk => .inl hk), h5.below h.1 (fun k hk => hk.1)⟩
          clear hgw hns hown3
          rw [HGW.out]
          go_wp2_with (first
            | (go_at_call 9; refine (hN5.out _ _ 1 (by omega) (by omega) HI4.out).mono ?_; rintro e5 w5 ⟨v5, rfl, hi5, hb5⟩; have HB5 := Lib.hid (HB4.out.trans hb5); clear hi5 hb5)
            | (go_at_call 9; refine (hN5.out _ _ 5 (by omega) (by omega) HI3.out).mono ?_; rintro e4 w4 ⟨v4, rfl, hi4, hb4⟩; have HI4 := Lib.hid hi4; have HB4 := Lib.hid (HB3.out.trans hb4); clear hi4 hb4))
          go_ret
          exact ⟨by simp, HB5.out⟩
    · clear hw
      obtain ⟨want, hwant⟩ : ∃ want, want = bs := ⟨_, rfl⟩
      rw [← hwant] at hSB
      rw [show Want bs fl bs 19 = Want bs fl want 19 by rw [hwant]] at HW
      clear hwant
      go_enter Try.func3, Try.ntmps3
      go_wp2_with (first
        | (go_at_call 7; refine (hA.out _).mono ?_; rintro e1 w1 ⟨rfl, hb1⟩; have HB1 := Lib.hid hb1; clear hb1)
        | (go_at_call 8; refine (hN.out _ HB1.out).mono ?_; rintro e2 w2 ⟨p, rfl, hb2, hi2⟩; have HB2 := Lib.hid (below_trans HB1.out hb2); have HI2 := Lib.hid hi2; clear hb2 hi2)
        | (rw [hconvb.out _ HB2.out]))
      try rw [hSB]
      clear hSB
      go_loopw [8, 11] (fun g i wr => ∃ (j : Nat) (s : SS), j ≤ s.gv ∧ i = .int .i64 j ∧ g = .string ⟨(bs.take s.gv).toArray⟩ ∧ s.gv ≤ n ∧ Inv bs fl s ∧ Below w.heap.size w wr ∧ InS w.heap.size NoT wr p s) (fun _ i _ => n + 1 - (intOf i).toNat)
      case atStart => exact ⟨0, _, by simp, rfl, by simp, by simp, inv_new bs zs fl, HB2.out, HI2.out⟩
      case round =>
        obtain ⟨j, s, hj, rfl, rfl, hgn, hinv, hbw, hin⟩ := hrel
        have HINV := Lib.hid hinv; have HI := Lib.hid hin; have HB := Lib.hid hbw
        have i5 : (j : Int) ≤ (n : Int) := by omega
        have hNx : Hid (∀ ask : Int, ask ≤ 9223372036854775807 → Calls Try.prog 9 #[.pointer (some ⟨p, 0, none⟩), .int .i64 ask] wr fun e w' => ∃ v x er s', e = .returned (.tuple #[v, .int .i64 er]) ∧ NextO s ask x er s' ∧ Own w' 5 1 v x.length (x.map bV) ∧ (∀ k, v.ownBlock = some k → wr.heap.size ≤ k) ∧ InS w.heap.size (fun k => NoT k ∨ v.ownBlock = some k) w' p s' ∧ Only (fun k => w.heap.size ≤ k ∧ ¬ NoT k) wr w') := fun ask h2 =>
          next_in hin ask (by have := HINV.out.tot; have := HL.out; omega) (by rw [HINV.out.fl_]; exact hfl2) h2
        clear hinv hin hbw
        obtain ⟨ask, hask⟩ : ∃ ask : Int, ask = 1 := ⟨_, rfl⟩
        have hask1 : 1 ≤ ask := by omega
        have hask2 : ask ≤ 9223372036854775807 := by omega
        have hNx := Lib.hid (hNx.out ask hask2)
        subst hask
        clear hask2
        go_wp2_with fail
        refine hNx.out.mono ?_
        rintro e3 w3 ⟨v3, x3, er, s3, rfl, ho3, hown3, -, hi3, hd3⟩
        have hd3' : Below w.heap.size wr w3 := hd3.below HI.out.1 (fun k hk => hk.1)
        have HB3 := Lib.hid (HB.out.trans hd3')
        have HI3 := Lib.hid (hi3.less (T' := NoT) (fun k hk => hk.elim))
        have HO3 := Lib.hid ho3
        clear ho3 hi3 hd3 hd3'
        by_cases he : er = 0
        · subst he
          obtain ⟨hinv3, hx1, hx2, hgv3, htk3, hx4⟩ := HINV.out.next HI.out.wf HO3.out
          have HINV3 := Lib.hid hinv3; have HTK3 := Lib.hid htk3
          have hconv := conv_own hown3
          obtain ⟨A3, c3, rfl, -, -⟩ := hown3.len_
          have hxl3 : x3.length ≤ 200 := by have := HINV.out.tot; have := HL.out; omega
          have hxz : ((x3.length : Int) == 0) = false := by rw [beq_eq_false_iff_ne]; omega
          have hxm : ¬ (1 : Int) < (x3.length : Int) := by omega
          have hcat := cat_ (bs.take s.gv) x3
          rw [← HTK3.out] at hcat
          have HGV := Lib.hid hgv3
          clear hown3 hinv3 htk3 hgv3
          generalize hxl : x3.length = xl at *
          go_wp2
          go_roundw
          case rel => exact ⟨j + 1, s3, by have := HGV.out; omega, by go_num, rfl, by have := HINV3.out.tot; have := HL.out; omega, HINV3.out, HB3.out, HI3.out⟩
          case measure => simp [intOf]; omega
        · obtain ⟨rfl, rfl, hgw, hns⟩ := HINV.out.stop HI.out.wf HO3.out hask1 he HW.out
          have hbn : ((19 : Int) != 0) = true := by decide
          clear he
          have HGW := Lib.hid hgw
          have hN5 : Hid (∀ X T (k : Int), 1 ≤ k → k ≤ 100 → InS w.heap.size T X p s3 → Calls Try.prog 9 #[.pointer (some ⟨p, 0, none⟩), .int .i64 k] X fun e w' => ∃ v, e = .returned (.tuple #[v, .int .i64 19]) ∧ InS w.heap.size T w' p s3 ∧ Below w.heap.size X w') := fun X T k h1 h2 h =>
            (next_at h (hns k h1) (by have := HINV.out.tot; have := HL.out; omega) (by rw [HINV.out.fl_]; exact hfl2) (by omega)).mono fun e w' ⟨v, h3, _, _, h4, h5⟩ => ⟨v, h3, h4.less (fun k hk => .inl hk), h5.below h.1 (fun k hk => hk.1)⟩
          clear hgw hns hown3
          rw [HGW.out]
          go_wp2_with (first
            | (go_at_call 9; refine (hN5.out _ _ 1 (by omega) (by omega) HI4.out).mono ?_; rintro e5 w5 ⟨v5, rfl, hi5, hb5⟩; have HB5 := Lib.hid (HB4.out.trans hb5); clear hi5 hb5)
            | (go_at_call 9; refine (hN5.out _ _ 5 (by omega) (by omega) HI3.out).mono ?_; rintro e4 w4 ⟨v4, rfl, hi4, hb4⟩; have HI4 := Lib.hid hi4; have HB4 := Lib.hid (HB3.out.trans hb4); clear hi4 hb4))
          go_ret
          exact ⟨by simp, HB5.out⟩
set_option maxRecDepth 20000 in
set_option maxHeartbeats 8000000 in
theorem all_pos (bs : List UInt8) (zs : List Int) (fl : Int) (A Z : Option Addr) (n c m d : Nat) (w : World) (hr : Rd w w.heap.size 1 A n (bs.map bV)) (hz : Rd w w.heap.size 1 Z m (zs.map iV)) (hn : n ≤ 200) (hc : n ≤ c) (hm : m ≤ 10) (hm0 : 0 < m) (hfl2 : fl ≤ 9223372036854775807) (hzr : ∀ z ∈ zs, z ≤ 9223372036854775807) :
    Calls Try.prog 3 #[.slice A n c, .int .i64 fl, .slice Z m d] w fun e w' => e = .returned (.bool true) ∧ Below w.heap.size w w' := by
  have hA : Hid (∀ w, Calls Try.prog 7 #[] w fun e w' => e = .returned (.bool true) ∧ Below w.heap.size w w') := awake_any
  have HR := Lib.hid hr; have HZ := Lib.hid hz; have HZR := Lib.hid hzr
  have hl : bs.length = n := by simpa using hr.1
  have HL := Lib.hid hl
  have hN : Hid (∀ W, Below w.heap.size w W → Calls Try.prog 8 #[.slice A n c, .int .i64 fl, .slice Z m d] W fun e w' => ∃ p, e = .returned (.pointer (some ⟨p, 0, none⟩)) ∧ Below W.heap.size W w' ∧ InS w.heap.size NoT w' p ⟨cutP bs zs, 0, bs.length, fl⟩) := fun W hW =>
    newS_in (B := w.heap.size) bs zs fl A Z n c m d w.heap.size W (hr.below hW) (hz.below hW) (by omega) hc (by omega) hW.size hW.size (fun _ h => h.elim) (cutP_wf _ _ _)
  have i1 : ¬ (200 : Int) < (n : Int) := by omega
  have i2 : ¬ (10 : Int) < (m : Int) := by omega
  obtain ⟨SB, hSB⟩ : ∃ SB : ByteArray, SB = ⟨bs.toArray⟩ := ⟨_, rfl⟩
  have HSB := Lib.hid hSB
  have hsz : SB.size = n := by rw [hSB]; exact hl
  have hconvb : Hid (∀ W, Below w.heap.size w W → (convert 22 9 (.slice A n c)).run Try.prog W = .ok (.string SB) W) := fun W hW => by rw [HSB.out]; exact conv_rd (hr.below hW)
  clear hr hz hl hzr hSB
  by_cases hw : 0 ≤ fl ∧ fl ≤ n
  · have i3 : 0 ≤ fl := hw.1
    have i4 : fl ≤ (n : Int) := hw.2
    have HW : Hid (Want bs fl (bs.take fl.toNat) 11) := .inl ⟨by omega, by rw [HL.out]; omega, rfl, rfl⟩
    have HX : Hid (SB.extract 0 fl.toNat = ⟨(bs.take fl.toNat).toArray⟩) := ba_eq _ _ (by rw [ba_extract, HSB.out]; rfl)
    clear hw
    generalize hwant : bs.take fl.toNat = want at *
    clear hwant
    go_enter Try.func3, Try.ntmps3
    go_wp2_with (first
      | (go_at_call 7; refine (hA.out _).mono ?_; rintro e1 w1 ⟨rfl, hb1⟩; have HB1 := Lib.hid hb1; clear hb1)
      | (go_at_call 8; refine (hN.out _ HB1.out).mono ?_; rintro e2 w2 ⟨p, rfl, hb2, hi2⟩; have HB2 := Lib.hid (below_trans HB1.out hb2); have HI2 := Lib.hid hi2; clear hb2 hi2)
      | (rw [hconvb.out _ HB2.out]))
    rw [HX.out]
    clear HX
    go_loopw [8, 11] (fun g i wr => ∃ (j : Nat) (s : SS), j ≤ s.gv ∧ i = .int .i64 j ∧ g = .string ⟨(bs.take s.gv).toArray⟩ ∧ s.gv ≤ n ∧ Inv bs fl s ∧ Below w.heap.size w wr ∧ InS w.heap.size NoT wr p s) (fun _ i _ => n + 1 - (intOf i).toNat)
    case atStart => exact ⟨0, _, by simp, rfl, by simp, by simp, inv_new bs zs fl, HB2.out, HI2.out⟩
    case round =>
      obtain ⟨j, s, hj, rfl, rfl, hgn, hinv, hbw, hin⟩ := hrel
      have HINV := Lib.hid hinv; have HI := Lib.hid hin; have HB := Lib.hid hbw
      have i5 : (j : Int) ≤ (n : Int) := by omega
      have hNx : Hid (∀ ask : Int, ask ≤ 9223372036854775807 → Calls Try.prog 9 #[.pointer (some ⟨p, 0, none⟩), .int .i64 ask] wr fun e w' => ∃ v x er s', e = .returned (.tuple #[v, .int .i64 er]) ∧ NextO s ask x er s' ∧ Own w' 5 1 v x.length (x.map bV) ∧ (∀ k, v.ownBlock = some k → wr.heap.size ≤ k) ∧ InS w.heap.size (fun k => NoT k ∨ v.ownBlock = some k) w' p s' ∧ Only (fun k => w.heap.size ≤ k ∧ ¬ NoT k) wr w') := fun ask h2 =>
        next_in hin ask (by have := HINV.out.tot; have := HL.out; omega) (by rw [HINV.out.fl_]; exact hfl2) h2
      clear hinv hin hbw
      have i6 : (0 : Int) < (m : Int) := by omega
      have hmb : ((m : Int) == 0) = false := by rw [beq_eq_false_iff_ne]; omega
      have hjm : j % m < m := Nat.mod_lt _ (by omega)
      have hjt : (j : Int).tmod (m : Int) = ((j % m : Nat) : Int) := by rw [Int.tmod_eq_emod_of_nonneg (by omega)]; omega
      have hjt2 : (j : Int) % (m : Int) = ((j % m : Nat) : Int) := by omega
      obtain ⟨bz, oz, rfl, hzB, hzc⟩ := HZ.out.2 (by omega)
      have cz := hzc (j % m) (by omega)
      have hzl : zs.length = m := by simpa using HZ.out.1
      rw [List.getElem?_map, List.getElem?_eq_getElem (by omega)] at cz
      simp only [Option.map_some, iV] at cz
      have cz2 := (HB.out.cell (p := ⟨bz, oz + j % m, none⟩) hzB).trans cz
      have hzr := HZR.out _ (List.getElem_mem (show j % m < zs.length by omega))
      clear cz hzc
      generalize zs[j % m]'(by omega) = z at *
      generalize j % m = q at *
      have i7 : (q : Int) < (m : Int) := by omega
      obtain ⟨ask, hask⟩ : ∃ ask : Int, max z 1 = ask := ⟨_, rfl⟩
      have hask1 : 1 ≤ ask := by omega
      have hask2 : ask ≤ 9223372036854775807 := by omega
      have hNx := Lib.hid (hNx.out ask hask2)
      clear hzl
      go_wp2_with fail
      refine hNx.out.mono ?_
      rintro e3 w3 ⟨v3, x3, er, s3, rfl, ho3, hown3, -, hi3, hd3⟩
      have hd3' : Below w.heap.size wr w3 := hd3.below HI.out.1 (fun k hk => hk.1)
      have HB3 := Lib.hid (HB.out.trans hd3')
      have HI3 := Lib.hid (hi3.less (T' := NoT) (fun k hk => hk.elim))
      have HO3 := Lib.hid ho3
      clear ho3 hi3 hd3 hd3'
      by_cases he : er = 0
      · subst he
        obtain ⟨hinv3, hx1, hx2, hgv3, htk3, hx4⟩ := HINV.out.next HI.out.wf HO3.out
        have HINV3 := Lib.hid hinv3; have HTK3 := Lib.hid htk3
        have hconv := conv_own hown3
        obtain ⟨A3, c3, rfl, -, -⟩ := hown3.len_
        have hxl3 : x3.length ≤ 200 := by have := HINV.out.tot; have := HL.out; omega
        have hxz : ((x3.length : Int) == 0) = false := by rw [beq_eq_false_iff_ne]; omega
        have hxm : ¬ (ask : Int) < (x3.length : Int) := by omega
        have hcat := cat_ (bs.take s.gv) x3
        rw [← HTK3.out] at hcat
        have HGV := Lib.hid hgv3
        clear hown3 hinv3 htk3 hgv3
        generalize hxl : x3.length = xl at *
        go_wp2
        go_roundw
        case rel => exact ⟨j + 1, s3, by have := HGV.out; omega, by go_num, rfl, by have := HINV3.out.tot; have := HL.out; omega, HINV3.out, HB3.out, HI3.out⟩
        case measure => simp [intOf]; omega
      · obtain ⟨rfl, rfl, hgw, hns⟩ := HINV.out.stop HI.out.wf HO3.out hask1 he HW.out
        have hbn : ((11 : Int) != 0) = true := by decide
        clear he
        have HGW := Lib.hid hgw
        have hN5 : Hid (∀ X T (k : Int), 1 ≤ k → k ≤ 100 → InS w.heap.size T X p s3 → Calls Try.prog 9 #[.pointer (some ⟨p, 0, none⟩), .int .i64 k] X fun e w' => ∃ v, e = .returned (.tuple #[v, .int .i64 11]) ∧ InS w.heap.size T w' p s3 ∧ Below w.heap.size X w') := fun X T k h1 h2 h =>
          (next_at h (hns k h1) (by have := HINV.out.tot; have := HL.out; omega) (by rw [HINV.out.fl_]; exact hfl2) (by omega)).mono fun e w' ⟨v, h3, _, _, h4, h5⟩ => ⟨v, h3, h4.less (fun k hk => .inl hk), h5.below h.1 (fun k hk => hk.1)⟩
        clear hgw hns hown3
        rw [HGW.out]
        go_wp2_with (first
          | (go_at_call 9; refine (hN5.out _ _ 1 (by omega) (by omega) HI4.out).mono ?_; rintro e5 w5 ⟨v5, rfl, hi5, hb5⟩; have HB5 := Lib.hid (HB4.out.trans hb5); clear hi5 hb5)
          | (go_at_call 9; refine (hN5.out _ _ 5 (by omega) (by omega) HI3.out).mono ?_; rintro e4 w4 ⟨v4, rfl, hi4, hb4⟩; have HI4 := Lib.hid hi4; have HB4 := Lib.hid (HB3.out.trans hb4); clear hi4 hb4))
        go_ret
        exact ⟨by simp, HB5.out⟩
  · have HW : Hid (Want bs fl bs 19) := .inr ⟨by rw [HL.out]; exact hw, rfl, rfl⟩
    have hSB := HSB.out
    by_cases h3 : 0 ≤ fl
    · have i4 : ¬ fl ≤ (n : Int) := fun h => hw ⟨h3, h⟩
      clear hw
      obtain ⟨want, hwant⟩ : ∃ want, want = bs := ⟨_, rfl⟩
      rw [← hwant] at hSB
      rw [show Want bs fl bs 19 = Want bs fl want 19 by rw [hwant]] at HW
      clear hwant
      go_enter Try.func3, Try.ntmps3
      go_wp2_with (first
        | (go_at_call 7; refine (hA.out _).mono ?_; rintro e1 w1 ⟨rfl, hb1⟩; have HB1 := Lib.hid hb1; clear hb1)
        | (go_at_call 8; refine (hN.out _ HB1.out).mono ?_; rintro e2 w2 ⟨p, rfl, hb2, hi2⟩; have HB2 := Lib.hid (below_trans HB1.out hb2); have HI2 := Lib.hid hi2; clear hb2 hi2)
        | (rw [hconvb.out _ HB2.out]))
      try rw [hSB]
      clear hSB
      go_loopw [8, 11] (fun g i wr => ∃ (j : Nat) (s : SS), j ≤ s.gv ∧ i = .int .i64 j ∧ g = .string ⟨(bs.take s.gv).toArray⟩ ∧ s.gv ≤ n ∧ Inv bs fl s ∧ Below w.heap.size w wr ∧ InS w.heap.size NoT wr p s) (fun _ i _ => n + 1 - (intOf i).toNat)
      case atStart => exact ⟨0, _, by simp, rfl, by simp, by simp, inv_new bs zs fl, HB2.out, HI2.out⟩
      case round =>
        obtain ⟨j, s, hj, rfl, rfl, hgn, hinv, hbw, hin⟩ := hrel
        have HINV := Lib.hid hinv; have HI := Lib.hid hin; have HB := Lib.hid hbw
        have i5 : (j : Int) ≤ (n : Int) := by omega
        have hNx : Hid (∀ ask : Int, ask ≤ 9223372036854775807 → Calls Try.prog 9 #[.pointer (some ⟨p, 0, none⟩), .int .i64 ask] wr fun e w' => ∃ v x er s', e = .returned (.tuple #[v, .int .i64 er]) ∧ NextO s ask x er s' ∧ Own w' 5 1 v x.length (x.map bV) ∧ (∀ k, v.ownBlock = some k → wr.heap.size ≤ k) ∧ InS w.heap.size (fun k => NoT k ∨ v.ownBlock = some k) w' p s' ∧ Only (fun k => w.heap.size ≤ k ∧ ¬ NoT k) wr w') := fun ask h2 =>
          next_in hin ask (by have := HINV.out.tot; have := HL.out; omega) (by rw [HINV.out.fl_]; exact hfl2) h2
        clear hinv hin hbw
        have i6 : (0 : Int) < (m : Int) := by omega
        have hmb : ((m : Int) == 0) = false := by rw [beq_eq_false_iff_ne]; omega
        have hjm : j % m < m := Nat.mod_lt _ (by omega)
        have hjt : (j : Int).tmod (m : Int) = ((j % m : Nat) : Int) := by rw [Int.tmod_eq_emod_of_nonneg (by omega)]; omega
        have hjt2 : (j : Int) % (m : Int) = ((j % m : Nat) : Int) := by omega
        obtain ⟨bz, oz, rfl, hzB, hzc⟩ := HZ.out.2 (by omega)
        have cz := hzc (j % m) (by omega)
        have hzl : zs.length = m := by simpa using HZ.out.1
        rw [List.getElem?_map, List.getElem?_eq_getElem (by omega)] at cz
        simp only [Option.map_some, iV] at cz
        have cz2 := (HB.out.cell (p := ⟨bz, oz + j % m, none⟩) hzB).trans cz
        have hzr := HZR.out _ (List.getElem_mem (show j % m < zs.length by omega))
        clear cz hzc
        generalize zs[j % m]'(by omega) = z at *
        generalize j % m = q at *
        have i7 : (q : Int) < (m : Int) := by omega
        obtain ⟨ask, hask⟩ : ∃ ask : Int, max z 1 = ask := ⟨_, rfl⟩
        have hask1 : 1 ≤ ask := by omega
        have hask2 : ask ≤ 9223372036854775807 := by omega
        have hNx := Lib.hid (hNx.out ask hask2)
        clear hzl
        go_wp2_with fail
        refine hNx.out.mono ?_
        rintro e3 w3 ⟨v3, x3, er, s3, rfl, ho3, hown3, -, hi3, hd3⟩
        have hd3' : Below w.heap.size wr w3 := hd3.below HI.out.1 (fun k hk => hk.1)
        have HB3 := Lib.hid (HB.out.trans hd3')
        have HI3 := Lib.hid (hi3.less (T' := NoT) (fun k hk => hk.elim))
        have HO3 := Lib.hid ho3
        clear ho3 hi3 hd3 hd3'
        by_cases he : er = 0
        · subst he
          obtain ⟨hinv3, hx1, hx2, hgv3, htk3, hx4⟩ := HINV.out.next HI.out.wf HO3.out
          have HINV3 := Lib.hid hinv3; have HTK3 := Lib.hid htk3
          have hconv := conv_own hown3
          obtain ⟨A3, c3, rfl, -, -⟩ := hown3.len_
          have hxl3 : x3.length ≤ 200 := by have := HINV.out.tot; have := HL.out; omega
          have hxz : ((x3.length : Int) == 0) = false := by rw [beq_eq_false_iff_ne]; omega
          have hxm : ¬ (ask : Int) < (x3.length : Int) := by omega
          have hcat := cat_ (bs.take s.gv) x3
          rw [← HTK3.out] at hcat
          have HGV := Lib.hid hgv3
          clear hown3 hinv3 htk3 hgv3
          generalize hxl : x3.length = xl at *
          go_wp2
          go_roundw
          case rel => exact ⟨j + 1, s3, by have := HGV.out; omega, by go_num, rfl, by have := HINV3.out.tot; have := HL.out; omega, HINV3.out, HB3.out, HI3.out⟩
          case measure => simp [intOf]; omega
        · obtain ⟨rfl, rfl, hgw, hns⟩ := HINV.out.stop HI.out.wf HO3.out hask1 he HW.out
          have hbn : ((19 : Int) != 0) = true := by decide
          clear he
          have HGW := Lib.hid hgw
          have hN5 : Hid (∀ X T (k : Int), 1 ≤ k → k ≤ 100 → InS w.heap.size T X p s3 → Calls Try.prog 9 #[.pointer (some ⟨p, 0, none⟩), .int .i64 k] X fun e w' => ∃ v, e = .returned (.tuple #[v, .int .i64 19]) ∧ InS w.heap.size T w' p s3 ∧ Below w.heap.size X w') := fun X T k h1 h2 h =>
            (next_at h (hns k h1) (by have := HINV.out.tot; have := HL.out; omega) (by rw [HINV.out.fl_]; exact hfl2) (by omega)).mono fun e w' ⟨v, h3, _, _, h4, h5⟩ => ⟨v, h3, h4.less (fun k hk => .inl hk), h5.below h.1 (fun k hk => hk.1)⟩
          clear hgw hns hown3
          rw [HGW.out]
          go_wp2_with (first
            | (go_at_call 9; refine (hN5.out _ _ 1 (by omega) (by omega) HI4.out).mono ?_; rintro e5 w5 ⟨v5, rfl, hi5, hb5⟩; have HB5 := Lib.hid (HB4.out.trans hb5); clear hi5 hb5)
            | (go_at_call 9; refine (hN5.out _ _ 5 (by omega) (by omega) HI3.out).mono ?_; rintro e4 w4 ⟨v4, rfl, hi4, hb4⟩; have HI4 := Lib.hid hi4; have HB4 := Lib.hid (HB3.out.trans hb4); clear hi4 hb4))
          go_ret
          exact ⟨by simp, HB5.out⟩
    · clear hw
      obtain ⟨want, hwant⟩ : ∃ want, want = bs := ⟨_, rfl⟩
      rw [← hwant] at hSB
      rw [show Want bs fl bs 19 = Want bs fl want 19 by rw [hwant]] at HW
      clear hwant
      go_enter Try.func3, Try.ntmps3
      go_wp2_with (first
        | (go_at_call 7; refine (hA.out _).mono ?_; rintro e1 w1 ⟨rfl, hb1⟩; have HB1 := Lib.hid hb1; clear hb1)
        | (go_at_call 8; refine (hN.out _ HB1.out).mono ?_; rintro e2 w2 ⟨p, rfl, hb2, hi2⟩; have HB2 := Lib.hid (below_trans HB1.out hb2); have HI2 := Lib.hid hi2; clear hb2 hi2)
        | (rw [hconvb.out _ HB2.out]))
      try rw [hSB]
      clear hSB
      go_loopw [8, 11] (fun g i wr => ∃ (j : Nat) (s : SS), j ≤ s.gv ∧ i = .int .i64 j ∧ g = .string ⟨(bs.take s.gv).toArray⟩ ∧ s.gv ≤ n ∧ Inv bs fl s ∧ Below w.heap.size w wr ∧ InS w.heap.size NoT wr p s) (fun _ i _ => n + 1 - (intOf i).toNat)
      case atStart => exact ⟨0, _, by simp, rfl, by simp, by simp, inv_new bs zs fl, HB2.out, HI2.out⟩
      case round =>
        obtain ⟨j, s, hj, rfl, rfl, hgn, hinv, hbw, hin⟩ := hrel
        have HINV := Lib.hid hinv; have HI := Lib.hid hin; have HB := Lib.hid hbw
        have i5 : (j : Int) ≤ (n : Int) := by omega
        have hNx : Hid (∀ ask : Int, ask ≤ 9223372036854775807 → Calls Try.prog 9 #[.pointer (some ⟨p, 0, none⟩), .int .i64 ask] wr fun e w' => ∃ v x er s', e = .returned (.tuple #[v, .int .i64 er]) ∧ NextO s ask x er s' ∧ Own w' 5 1 v x.length (x.map bV) ∧ (∀ k, v.ownBlock = some k → wr.heap.size ≤ k) ∧ InS w.heap.size (fun k => NoT k ∨ v.ownBlock = some k) w' p s' ∧ Only (fun k => w.heap.size ≤ k ∧ ¬ NoT k) wr w') := fun ask h2 =>
          next_in hin ask (by have := HINV.out.tot; have := HL.out; omega) (by rw [HINV.out.fl_]; exact hfl2) h2
        clear hinv hin hbw
        have i6 : (0 : Int) < (m : Int) := by omega
        have hmb : ((m : Int) == 0) = false := by rw [beq_eq_false_iff_ne]; omega
        have hjm : j % m < m := Nat.mod_lt _ (by omega)
        have hjt : (j : Int).tmod (m : Int) = ((j % m : Nat) : Int) := by rw [Int.tmod_eq_emod_of_nonneg (by omega)]; omega
        have hjt2 : (j : Int) % (m : Int) = ((j % m : Nat) : Int) := by omega
        obtain ⟨bz, oz, rfl, hzB, hzc⟩ := HZ.out.2 (by omega)
        have cz := hzc (j % m) (by omega)
        have hzl : zs.length = m := by simpa using HZ.out.1
        rw [List.getElem?_map, List.getElem?_eq_getElem (by omega)] at cz
        simp only [Option.map_some, iV] at cz
        have cz2 := (HB.out.cell (p := ⟨bz, oz + j % m, none⟩) hzB).trans cz
        have hzr := HZR.out _ (List.getElem_mem (show j % m < zs.length by omega))
        clear cz hzc
        generalize zs[j % m]'(by omega) = z at *
        generalize j % m = q at *
        have i7 : (q : Int) < (m : Int) := by omega
        obtain ⟨ask, hask⟩ : ∃ ask : Int, max z 1 = ask := ⟨_, rfl⟩
        have hask1 : 1 ≤ ask := by omega
        have hask2 : ask ≤ 9223372036854775807 := by omega
        have hNx := Lib.hid (hNx.out ask hask2)
        clear hzl
        go_wp2_with fail
        refine hNx.out.mono ?_
        rintro e3 w3 ⟨v3, x3, er, s3, rfl, ho3, hown3, -, hi3, hd3⟩
        have hd3' : Below w.heap.size wr w3 := hd3.below HI.out.1 (fun k hk => hk.1)
        have HB3 := Lib.hid (HB.out.trans hd3')
        have HI3 := Lib.hid (hi3.less (T' := NoT) (fun k hk => hk.elim))
        have HO3 := Lib.hid ho3
        clear ho3 hi3 hd3 hd3'
        by_cases he : er = 0
        · subst he
          obtain ⟨hinv3, hx1, hx2, hgv3, htk3, hx4⟩ := HINV.out.next HI.out.wf HO3.out
          have HINV3 := Lib.hid hinv3; have HTK3 := Lib.hid htk3
          have hconv := conv_own hown3
          obtain ⟨A3, c3, rfl, -, -⟩ := hown3.len_
          have hxl3 : x3.length ≤ 200 := by have := HINV.out.tot; have := HL.out; omega
          have hxz : ((x3.length : Int) == 0) = false := by rw [beq_eq_false_iff_ne]; omega
          have hxm : ¬ (ask : Int) < (x3.length : Int) := by omega
          have hcat := cat_ (bs.take s.gv) x3
          rw [← HTK3.out] at hcat
          have HGV := Lib.hid hgv3
          clear hown3 hinv3 htk3 hgv3
          generalize hxl : x3.length = xl at *
          go_wp2
          go_roundw
          case rel => exact ⟨j + 1, s3, by have := HGV.out; omega, by go_num, rfl, by have := HINV3.out.tot; have := HL.out; omega, HINV3.out, HB3.out, HI3.out⟩
          case measure => simp [intOf]; omega
        · obtain ⟨rfl, rfl, hgw, hns⟩ := HINV.out.stop HI.out.wf HO3.out hask1 he HW.out
          have hbn : ((19 : Int) != 0) = true := by decide
          clear he
          have HGW := Lib.hid hgw
          have hN5 : Hid (∀ X T (k : Int), 1 ≤ k → k ≤ 100 → InS w.heap.size T X p s3 → Calls Try.prog 9 #[.pointer (some ⟨p, 0, none⟩), .int .i64 k] X fun e w' => ∃ v, e = .returned (.tuple #[v, .int .i64 19]) ∧ InS w.heap.size T w' p s3 ∧ Below w.heap.size X w') := fun X T k h1 h2 h =>
            (next_at h (hns k h1) (by have := HINV.out.tot; have := HL.out; omega) (by rw [HINV.out.fl_]; exact hfl2) (by omega)).mono fun e w' ⟨v, h3, _, _, h4, h5⟩ => ⟨v, h3, h4.less (fun k hk => .inl hk), h5.below h.1 (fun k hk => hk.1)⟩
          clear hgw hns hown3
          rw [HGW.out]
          go_wp2_with (first
            | (go_at_call 9; refine (hN5.out _ _ 1 (by omega) (by omega) HI4.out).mono ?_; rintro e5 w5 ⟨v5, rfl, hi5, hb5⟩; have HB5 := Lib.hid (HB4.out.trans hb5); clear hi5 hb5)
            | (go_at_call 9; refine (hN5.out _ _ 5 (by omega) (by omega) HI3.out).mono ?_; rintro e4 w4 ⟨v4, rfl, hi4, hb4⟩; have HI4 := Lib.hid hi4; have HB4 := Lib.hid (HB3.out.trans hb4); clear hi4 hb4))
          go_ret
          exact ⟨by simp, HB5.out⟩
set_option maxHeartbeats 2000000 in
theorem all_big (fl : Int) (A Z : Option Addr) (n c m d : Nat) (w : World) (h : ¬ (n ≤ 200 ∧ m ≤ 10)) :
    Calls Try.prog 3 #[.slice A n c, .int .i64 fl, .slice Z m d] w fun e w' => e = .returned (.bool true) ∧ Below w.heap.size w w' := by
  have hA : Hid (∀ w, Calls Try.prog 7 #[] w fun e w' => e = .returned (.bool true) ∧ Below w.heap.size w w') := awake_any
  by_cases h1 : n ≤ 200
  · have i1 : ¬ (200 : Int) < (n : Int) := by omega
    have i2 : (10 : Int) < (m : Int) := by omega
    clear h
    go_enter Try.func3, Try.ntmps3
    go_wp2_with (first
      | (go_at_call 7; refine (hA.out _).mono ?_; rintro e2 w2 ⟨rfl, hb2⟩; have HB2 := Lib.hid (below_trans HB1.out hb2); clear hb2)
      | (go_at_call 7; refine (hA.out _).mono ?_; rintro e1 w1 ⟨rfl, hb1⟩; have HB1 := Lib.hid hb1; clear hb1))
    go_ret
    exact ⟨rfl, HB2.out⟩
  · have i1 : (200 : Int) < (n : Int) := by omega
    clear h
    go_enter Try.func3, Try.ntmps3
    go_wp2_with (first
      | (go_at_call 7; refine (hA.out _).mono ?_; rintro e2 w2 ⟨rfl, hb2⟩; have HB2 := Lib.hid (below_trans HB1.out hb2); clear hb2)
      | (go_at_call 7; refine (hA.out _).mono ?_; rintro e1 w1 ⟨rfl, hb1⟩; have HB1 := Lib.hid hb1; clear hb1))
    go_ret
    exact ⟨rfl, HB2.out⟩
theorem all_any (bs : List UInt8) (zs : List Int) (fl : Int) (A Z : Option Addr) (n c m d : Nat) (w : World) (hr : Rd w w.heap.size 1 A n (bs.map bV)) (hz : Rd w w.heap.size 1 Z m (zs.map iV)) (hc : n ≤ c) (hfl2 : fl ≤ 9223372036854775807) (hzr : ∀ z ∈ zs, z ≤ 9223372036854775807) :
    Calls Try.prog 3 #[.slice A n c, .int .i64 fl, .slice Z m d] w fun e w' => e = .returned (.bool true) ∧ Below w.heap.size w w' := by
  by_cases h : n ≤ 200 ∧ m ≤ 10
  · rcases Nat.eq_zero_or_pos m with rfl | h0
    · exact all_zero bs zs fl A Z n c d w hr hz h.1 hc hfl2 hzr
    · exact all_pos bs zs fl A Z n c m d w hr hz h.1 hc h.2 h0 hfl2 hzr
  · exact all_big fl A Z n c m d w h
end Go.Proofs.Ytnigmfjghapfgaa
