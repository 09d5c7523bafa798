/-
  The contract of the decoder's take; no condition beyond those that each theorem states.
-/
import Derived.Test.YtoagjhhdijebmaaDec3
namespace Go.Proofs.Ytoagjhhdijebmaa
open Go.RowKit Go.Rb
attribute [local irreducible] Go.wpQuiet

/-- n of what lies in a slice. -/
def sliceN : Option Value → Nat
  | some (.slice _ n _) => n
  | _ => 0
theorem isB_below {B b : Nat} {bs : List UInt8} {w w' : World} (h : IsB B b bs w) (hb : Below w.heap.size w w') : IsB B b bs w' := isB_only h (Only.of_below hb) (fun k _ hk h => by omega)
set_option maxRecDepth 20000 in
set_option maxHeartbeats 8000000 in
theorem take_any {p : Nat} {s : DS} (all : Bool) (w : World) (h : Rep w p s) (hwf : WfS s) (hl : s.held.length ≤ 100000) :
    Calls Try.prog 17 #[pp p, .bool all] w fun e w' => e = .returned (.string ⟨(takeS all s).1.toArray⟩) ∧ WentL w.heap.size w p (takeS all s).2 w' := by
  have hpl := h.lt
  have HS := Lib.hid (settle_any (B := w.heap.size) all (w.alloc (.cells #[.pointer none, .slice none 0 0] 53)) (h.low.below (below_al (Below.refl _ w) _) hpl) hpl (by simp) hl)
  have HIB := Lib.hid (isB_new w.heap.size w (Nat.le_refl _))
  have HO0 := Lib.hid ((Only.refl (fun k => k = p) w).alloc (.cells #[.pointer none, .slice none 0 0] 53))
  have hwt := settle_wf all s hwf
  have hlt := settle_len all s
  have hT : takeS all s = if (settleS all s).sure = true then ((D (settleS all s).kind all (settleS all s).held).1, { settleS all s with held := (D (settleS all s).kind all (settleS all s).held).2 }) else ([], settleS all s) := rfl
  obtain ⟨t, ht⟩ : ∃ t, settleS all s = t := ⟨_, rfl⟩
  obtain ⟨R, hR⟩ : ∃ R, takeS all s = R := ⟨_, rfl⟩
  rw [ht] at hwt hlt hT HS
  rw [hR] at hT ⊢
  have hlt2 : t.held.length ≤ 100000 := by omega
  clear ht hR h hlt hl hwf
  obtain ⟨b, hb⟩ : ∃ b, w.heap.size = b := ⟨_, rfl⟩
  have HBB := Lib.hid hb
  rw [hb] at HIB HS hpl ⊢
  have HT := Lib.hid hT
  have HWT := Lib.hid hwt
  clear hT hwt hb
  have HC0 : Hid (∀ (l : List UInt8) (W : World), RepL b W p { t with held := l } → ∃ A c, l.length ≤ c ∧ W.cell? ⟨p, 0, none⟩ = some (.int .i64 t.kind) ∧ W.cell? ⟨p, 1, none⟩ = some (.bool t.sure) ∧ W.cell? ⟨p, 2, none⟩ = some (.slice A l.length c) ∧ W.frozen? ⟨p, 2, none⟩ = false ∧ Blk W p 43 #[.int .i64 t.kind, .bool t.sure, .slice A l.length c, .bool t.closed] ∧ Own W 5 1 (.slice A l.length c) l.length (l.map bV) ∧ ∀ k, (Value.slice A l.length c).ownBlock = some k → k < b) := fun l W h => by
    obtain ⟨v, hb, hv, h3⟩ := h
    obtain ⟨A, c, rfl, hc, -⟩ := hv.len_
    exact ⟨A, c, hc, by rw [hb.cell]; rfl, by rw [hb.cell]; rfl, by rw [hb.cell]; rfl, hb.frozen 2, hb, hv, h3⟩
  unfold pp at HS ⊢
  go_enter Try.func17, Try.ntmps17
  go_wp2_with (go_at_call 26; refine HS.out.mono ?_; rintro e1 w1 ⟨rfl, hw1⟩; have HW1 := Lib.hid hw1; clear hw1)
  rw [HBB.out]
  have HI1 : Hid (IsB b b [] w1) := isB_only HIB.out HW1.out.1 (fun k hk _ h => by have h : k = p := h; omega)
  have HO1 := Lib.hid (HO0.out.trans HW1.out.1 (fun _ _ h => h))
  have HR1 : Hid (RepL b w1 p t) := HW1.out.2
  have hbl : b ≤ w1.heap.size := by have := HO1.out.size; have := HBB.out; omega
  clear HW1 HS HIB HO0
  by_cases hs : t.sure = true
  · have HT1 : Hid (R = ((D t.kind all t.held).1, { t with held := (D t.kind all t.held).2 })) := by show R = _; rw [HT.out, if_pos hs]
    have HK := Lib.hid (HWT.out hs)
    have HSU := Lib.hid hs
    clear hs HT HWT
    go_loopw [6, 7, 8] (fun _ _ _ wr => ∃ (l o : List UInt8), Hid (RepL b wr p { t with held := l }) ∧ Hid (IsB b b o wr) ∧ Hid (Only (fun k => k = p) w wr) ∧ Hid (D t.kind all t.held = (o ++ (D t.kind all l).1, (D t.kind all l).2)) ∧ l.length ≤ 100000 ∧ o.length + 4 * l.length ≤ 400000) (fun _ _ _ wr => sliceN (wr.cell? ⟨p, 2, none⟩))
    case atStart => exact ⟨t.held, [], HR1.out, HI1.out, HO1.out, (show _ = _ by simp), hlt2, by simp; omega⟩
    case round =>
      obtain ⟨l, o, hrep, hib, hon, hD, hll, hol⟩ := hrel
      obtain ⟨A, c, hc, c0, c1, c2, f2, hbk, hv, hlow⟩ := HC0.out l wr hrep.out
      rw [HSU.out] at c1
      have HBK := Lib.hid hbk
      have HV := Lib.hid hv
      have hpw : p < wr.heap.size := hbk.lt
      have hbw : b ≤ wr.heap.size := by have := hon.out.size; have := HBB.out; omega
      have C2 := Lib.hid c2
      have HLOW := Lib.hid hlow
      clear hbk hv hlow
      have HBS := Lib.hid (bstr_any b b o wr hib.out hbw)
      by_cases hl0 : l = []
      · subst hl0
        have HT2 : Hid (R.1 = o ∧ R.2 = { t with held := [] }) := by rw [HT1.out, hD.out, D_nil]; exact ⟨by simp, rfl⟩
        simp only [List.length_nil] at c2
        clear hol hll hD
        go_wp2_with (go_at_call 31; refine HBS.out.mono ?_; rintro e2 w2 ⟨rfl, hb2⟩)
        go_ret
        rw [HT2.out.1, HT2.out.2]
        refine ⟨rfl, hon.out.trans (Only.of_below hb2) (fun k hk h => ?_), hrep.out.below hb2 hpl⟩
        have h : b ≤ k := h; have := HBB.out; omega
      · have hpos : 0 < l.length := List.length_pos_iff.2 hl0
        have i1 : (0 : Int) < (l.length : Int) := by omega
        have hbd := stepD_bd t.kind all l hl0
        have HRW := Lib.hid (RepL.rep hrep.out)
        have hst : (stepD t.kind all l).2 ≤ 0 → R.1 = o ∧ R.2 = { t with held := l } := fun h => by rw [HT1.out, hD.out, D_stop h]; exact ⟨by simp, rfl⟩
        have hstep : 0 < (stepD t.kind all l).2 → D t.kind all t.held = ((o ++ putL (stepD t.kind all l).1) ++ (D t.kind all (l.drop (stepD t.kind all l).2.toNat)).1, (D t.kind all (l.drop (stepD t.kind all l).2.toNat)).2) := fun h => by rw [hD.out, D_step hl0 h]; simp
        have hE : t.kind = 1 → Calls Try.prog 28 #[pp p, .bool all] wr fun e w' => e = .returned (.tuple #[.int .i64 (stepD t.kind all l).1, .int .i64 (stepD t.kind all l).2]) ∧ Below wr.heap.size wr w' := fun h => by
          have := eight_any all wr HRW.out h hll
          rw [← h] at this
          exact this
        have hU : ¬ t.kind = 1 → Calls Try.prog 27 #[pp p, .bool all] wr fun e w' => e = .returned (.tuple #[.int .i64 (stepD t.kind all l).1, .int .i64 (stepD t.kind all l).2]) ∧ Below wr.heap.size wr w' := fun h => units_any_ all wr HRW.out h hl0 hll
        obtain ⟨X, hX⟩ : ∃ X, stepD t.kind all l = X := ⟨_, rfl⟩
        rw [hX] at hbd hst hstep hE hU
        obtain ⟨r, n⟩ := X
        simp only at hbd hst hstep hE hU
        obtain ⟨k, hk⟩ := Int.eq_ofNat_of_zero_le hbd.1
        subst hk
        rw [Int.toNat_natCast] at hstep
        have hkl : k ≤ l.length := by have := hbd.2.1; omega
        have HST := Lib.hid hst
        have HSTEP := Lib.hid hstep
        have HKL := Lib.hid hkl
        obtain ⟨ll, hll'⟩ : ∃ ll, l.length = ll := ⟨_, rfl⟩
        have HLL := Lib.hid hll'
        have HE := Lib.hid hE
        have HU := Lib.hid hU
        rw [hll'] at hc c2 C2 HBK HV HLOW hll hol hpos i1 HKL
        have HPUT := Lib.hid (fun W => codePut_any r W)
        have hpb := putL_bd r
        have hdl : (l.drop k).length = ll - k := by rw [List.length_drop, hll']
        have HDL := Lib.hid hdl
        clear hst hstep hE hU hX hbd hkl hll' hD hdl
        have HONB : Hid (∀ k, b ≤ k → k < w.heap.size → k = p) := fun k h1 h2 => by have := HBB.out; omega
        by_cases hk0 : k = 0
        · subst hk0
          by_cases hk1 : t.kind = 1
          · have HE1 := Lib.hid (HE.out hk1)
            rw [hk1] at c0
            unfold pp at HE1
            clear HE HU hk1
            go_wp2_with (first
              | (go_at_call 28; refine HE1.out.mono ?_; rintro e2 w2 ⟨rfl, hb2⟩; have HB2 := Lib.hid hb2; clear hb2)
              | (go_at_call 31; refine (bstr_any b b o w2 (isB_below hib.out HB2.out) (by have := HB2.out.size; omega)).mono ?_; rintro e3 w3 ⟨rfl, hb3⟩))
            go_ret
            rw [(HST.out (by simp)).1, (HST.out (by simp)).2]
            exact ⟨rfl, (hon.out.trans (Only.of_below HB2.out) (fun k hk h => by have h : wr.heap.size ≤ k := h; have := hon.out.size; omega)).trans (Only.of_below hb3) (fun k hk h => HONB.out k h hk), (hrep.out.below (HB2.out.mono hbw) hpl).below hb3 hpl⟩
          · have HE1 := Lib.hid (HU.out hk1)
            have hk1' : (t.kind == 1) = false := by simpa using hk1
            unfold pp at HE1
            clear HE HU hk1
            go_wp2_with (first
              | (go_at_call 27; refine HE1.out.mono ?_; rintro e2 w2 ⟨rfl, hb2⟩; have HB2 := Lib.hid hb2; clear hb2)
              | (go_at_call 31; refine (bstr_any b b o w2 (isB_below hib.out HB2.out) (by have := HB2.out.size; omega)).mono ?_; rintro e3 w3 ⟨rfl, hb3⟩))
            go_ret
            rw [(HST.out (by simp)).1, (HST.out (by simp)).2]
            exact ⟨rfl, (hon.out.trans (Only.of_below HB2.out) (fun k hk h => by have h : wr.heap.size ≤ k := h; have := hon.out.size; omega)).trans (Only.of_below hb3) (fun k hk h => HONB.out k h hk), (hrep.out.below (HB2.out.mono hbw) hpl).below hb3 hpl⟩
        · have hkk : ((k : Int) == 0) = false := by rw [beq_eq_false_iff_ne]; omega
          obtain ⟨A', c', hsl, hown, hlow2⟩ := bt_tail HV.out k HKL.out
          have HSL := Lib.hid hsl
          have HOWN := Lib.hid hown
          have HLOW2 : Hid (∀ q, (Value.slice A' (ll - k) c').ownBlock = some q → q < b) := fun q hq => HLOW.out q (hlow2 q hq)
          have hstep := HSTEP.out (by omega)
          have HSTEP := Lib.hid hstep
          have HPB := Lib.hid hpb
          have hw4 : Hid (∀ w4, Below b wr w4 → w4.cell? ⟨p, 0, none⟩ = some (.int .i64 t.kind) ∧ w4.cell? ⟨p, 2, none⟩ = some (.slice A ll c) ∧ w4.frozen? ⟨p, 2, none⟩ = false ∧ WentL b w p { t with held := l.drop k } (w4.setCell ⟨p, 2, none⟩ (.slice A' (ll - k) c'))) := fun w4 h4 => by
            have hb4 := HBK.out.below h4 hpl
            refine ⟨by rw [hb4.cell]; rfl, by rw [hb4.cell]; rfl, hb4.frozen 2, ?_⟩
            exact rep_held (s := t) hb4 (by rw [HDL.out]; exact HOWN.out.below h4 HLOW2.out) (hon.out.trans (Only.of_below h4) (fun k hk h => HONB.out k h hk)) HLOW2.out
          clear hsl hown hlow2 hstep hpb HST
          have hc2' : Hid (∀ (w4 : World), p < w4.heap.size → (w4.setCell ⟨p, 2, none⟩ (.slice A' (ll - k) c')).heap.size = w4.heap.size) := fun w4 _ => by simp [World.setCell]
          by_cases hk1 : t.kind = 1
          · have HE1 := Lib.hid (HE.out hk1)
            have HK1 := Lib.hid hk1
            rw [hk1] at c0
            unfold pp at HE1
            clear HE HU hk1
            go_wp2_with (first
              | (go_at_call 28; refine HE1.out.mono ?_; rintro e2 w2 ⟨rfl, hb2⟩; have HB2 := Lib.hid hb2; clear hb2)
              | (go_at_call 30; refine (HPUT.out _).mono ?_; rintro e3 w3 ⟨v3, rfl, hown3, hb3, hnew3⟩; have HI3 := Lib.hid (isB_below (isB_below hib.out HB2.out) hb3); have HB3 := Lib.hid (HB2.out.trans (hb3.mono HB2.out.size)); have HOW3 := Lib.hid hown3; have HNB3 : Hid (v3.ownBlock ≠ some b) := (fun h => by have h1 := hnew3 _ h; have h2 := HB2.out.size; have h3 := hbw; have h4 : b < wr.heap.size := by { rcases hib.out with h | h <;> exact h.lt }; omega); clear hown3 hb3 hnew3)
              | (go_at_call 29; go_loud (refine (bwrite_any b b o (putL r) v3 w3 HI3.out HOW3.out (by have := HPB.out; omega) HNB3.out (by have := HPB.out; omega) (by have := HB3.out.size; omega)).mono ?_); rintro e4 w4 ⟨rfl, hi4, hb4⟩; have HI4 := Lib.hid hi4; have HB4 := Lib.hid ((HB3.out.mono hbw).trans hb4); obtain ⟨d0, d2, f2', hwent⟩ := hw4.out _ HB4.out; have HWENT := Lib.hid hwent; have hsl := HSL.out; clear hi4 hb4 hwent))
            go_roundw
            case rel => exact ⟨l.drop k, o ++ putL r, HWENT.out.2, isB_only HI4.out ((Only.refl (fun k => k = p) w4).setCell (p := ⟨p, 2, none⟩) (fun _ => rfl) _) (fun k hk _ h => by have h : k = p := h; omega), HWENT.out.1, HSTEP.out, by rw [HDL.out]; omega, by have h1 := HPB.out; have h2 := HDL.out; rw [List.length_append, h2]; have := HKL.out; omega⟩
            case measure =>
              obtain ⟨A'', c'', -, -, -, e2, -⟩ := HC0.out _ _ HWENT.out.2
              rw [e2, C2.out]
              show (l.drop k).length < ll
              rw [HDL.out]; omega
          · have HE1 := Lib.hid (HU.out hk1)
            have hk1' : (t.kind == 1) = false := by simpa using hk1
            unfold pp at HE1
            clear HE HU hk1
            go_wp2_with (first
              | (go_at_call 27; refine HE1.out.mono ?_; rintro e2 w2 ⟨rfl, hb2⟩; have HB2 := Lib.hid hb2; clear hb2)
              | (go_at_call 30; refine (HPUT.out _).mono ?_; rintro e3 w3 ⟨v3, rfl, hown3, hb3, hnew3⟩; have HI3 := Lib.hid (isB_below (isB_below hib.out HB2.out) hb3); have HB3 := Lib.hid (HB2.out.trans (hb3.mono HB2.out.size)); have HOW3 := Lib.hid hown3; have HNB3 : Hid (v3.ownBlock ≠ some b) := (fun h => by have h1 := hnew3 _ h; have h2 := HB2.out.size; have h3 := hbw; have h4 : b < wr.heap.size := by { rcases hib.out with h | h <;> exact h.lt }; omega); clear hown3 hb3 hnew3)
              | (go_at_call 29; go_loud (refine (bwrite_any b b o (putL r) v3 w3 HI3.out HOW3.out (by have := HPB.out; omega) HNB3.out (by have := HPB.out; omega) (by have := HB3.out.size; omega)).mono ?_); rintro e4 w4 ⟨rfl, hi4, hb4⟩; have HI4 := Lib.hid hi4; have HB4 := Lib.hid ((HB3.out.mono hbw).trans hb4); obtain ⟨d0, d2, f2', hwent⟩ := hw4.out _ HB4.out; have HWENT := Lib.hid hwent; have hsl := HSL.out; clear hi4 hb4 hwent))
            go_roundw
            case rel => exact ⟨l.drop k, o ++ putL r, HWENT.out.2, isB_only HI4.out ((Only.refl (fun k => k = p) w4).setCell (p := ⟨p, 2, none⟩) (fun _ => rfl) _) (fun k hk _ h => by have h : k = p := h; omega), HWENT.out.1, HSTEP.out, by rw [HDL.out]; omega, by have h1 := HPB.out; have h2 := HDL.out; rw [List.length_append, h2]; have := HKL.out; omega⟩
            case measure =>
              obtain ⟨A'', c'', -, -, -, e2, -⟩ := HC0.out _ _ HWENT.out.2
              rw [e2, C2.out]
              show (l.drop k).length < ll
              rw [HDL.out]; omega
  · have hs' : t.sure = false := by simpa using hs
    have HT1 : Hid (R.1 = [] ∧ R.2 = t) := by rw [HT.out, if_neg hs]; exact ⟨rfl, rfl⟩
    obtain ⟨A, c, hc, c0, c1, -⟩ := HC0.out t.held w1 HR1.out
    rw [hs'] at c1
    have HBS := Lib.hid (bstr_any b b [] w1 HI1.out hbl)
    clear hs hs' HT
    go_loopw [6, 7, 8] (fun _ _ _ wr => wr = w1) (fun _ _ _ _ => 0)
    case atStart => rfl
    case round =>
      subst hrel
      go_wp2_with (go_at_call 31; refine HBS.out.mono ?_; rintro e2 w2 ⟨rfl, hb2⟩)
      go_ret
      rw [HT1.out.1, HT1.out.2]
      refine ⟨rfl, HO1.out.trans (Only.of_below hb2) (fun k hk h => ?_), HR1.out.below hb2 hpl⟩
      have h : b ≤ k := h
      have := HBB.out
      omega
end Go.Proofs.Ytoagjhhdijebmaa
