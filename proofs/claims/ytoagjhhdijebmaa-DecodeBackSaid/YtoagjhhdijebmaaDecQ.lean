/-
  Plain facts: the text of octets, at once and in two steps; the contract of the document's Text; no condition beyond those that each theorem states.
-/
import Derived.Test.YtoagjhhdijebmaaDec5
namespace Go.Proofs.Ytoagjhhdijebmaa
open Go.RowKit Go.Rb
attribute [local irreducible] Go.wpQuiet

/-- The text, all at once. -/
def refT (k : Int) (x : List UInt8) : List UInt8 := if k = 0 then (D (mkK x).1 true (x.drop (mkK x).2.toNat)).1 else (D k true x).1
theorem textD_eq (k : Int) (x : List UInt8) : textD k x = refT k x := by
  unfold textD refT
  by_cases hk : k = 0
  · subst hk
    rw [if_pos rfl]
    by_cases hs : sureB x = true
    · have e : takeS false ⟨0, !decide ((0 : Int) = 0), x, false⟩ = ((D (mkK x).1 false (x.drop (mkK x).2.toNat)).1, ⟨(mkK x).1, true, (D (mkK x).1 false (x.drop (mkK x).2.toNat)).2, false⟩) := by
        simp [takeS, settleS, hs]
      rw [e]
      have e2 : ∀ l, takeS true ⟨(mkK x).1, true, l, false⟩ = ((D (mkK x).1 true l).1, ⟨(mkK x).1, true, (D (mkK x).1 true l).2, false⟩) := fun l => by simp [takeS, settleS]
      rw [e2]
      exact (D_split (mkK x).1 _ (x.drop (mkK x).2.toNat) (Nat.le_refl _)).symm
    · have e : takeS false ⟨0, !decide ((0 : Int) = 0), x, false⟩ = ([], ⟨0, false, x, false⟩) := by
        simp [takeS, settleS, hs]
      rw [e]
      have e2 : takeS true ⟨0, false, x, false⟩ = ((D (mkK x).1 true (x.drop (mkK x).2.toNat)).1, ⟨(mkK x).1, true, (D (mkK x).1 true (x.drop (mkK x).2.toNat)).2, false⟩) := by
        simp [takeS, settleS]
      rw [e2]; rfl
  · rw [if_neg hk]
    have e2 : ∀ b l, takeS b ⟨k, !decide (k = 0), l, false⟩ = ((D k b l).1, ⟨k, !decide (k = 0), (D k b l).2, false⟩) := fun b l => by simp [takeS, settleS, hk]
    rw [e2, e2]
    exact (D_split k _ x (Nat.le_refl _)).symm
theorem ext_mk (l : List UInt8) (k : Nat) : (⟨l.toArray⟩ : ByteArray).extract k l.length = ⟨(l.drop k).toArray⟩ := by
  have h := extract_drop ⟨l.toArray⟩ k
  have e : (⟨l.toArray⟩ : ByteArray).size = l.length := rfl
  rw [e] at h
  generalize (⟨l.toArray⟩ : ByteArray).extract k l.length = s at *
  cases s with
  | mk d => congr 1; rw [← h]
theorem it_tail {w : World} {n c : Nat} {A : Option Addr} {l : List Int} (h : Own w 3 1 (.slice A n c) n (l.map iV)) (k : Nat) (hk : k ≤ n) :
    ∃ A' c', (∀ W, (Instr.slice 37 (.slice A n c) (some (.int .i64 (k : Int))) none none).run Try.prog W = .ok (.slice A' (n - k) c') W) ∧ Own w 3 1 (.slice A' (n - k) c') (n - k) ((l.drop k).map iV) := by
  obtain ⟨A', c', h1, h2, -, -⟩ := own_tail (P := Try.prog) 37 (by kernel_rfl) (fun _ => by kernel_rfl) h k hk
  rw [Nat.mul_one, ← List.map_drop] at h2
  exact ⟨A', c', h1, h2⟩
set_option maxRecDepth 20000 in
set_option maxHeartbeats 8000000 in
theorem rtext_1 (x : List UInt8) (w : World) (hx : x.length ≤ 10000) :
    Calls Try.prog 14 #[.int .i64 1, .string ⟨x.toArray⟩] w fun e w' => e = .returned (.string ⟨(D 1 true x).1.toArray⟩) ∧ Below w.heap.size w w' := by
  have HG : Hid (∀ (l : List UInt8) W, l.length ≤ 10000 → Calls Try.prog 19 #[.string ⟨l.toArray⟩] W fun e w' => e = .returned (.tuple #[.int .i64 (getP l).1, .int .i64 (getP l).2]) ∧ Below W.heap.size W w') := fun l W hl => by
    have := refGet_any ⟨l.toArray⟩ (by show l.toArray.size ≤ _; rw [List.size_toArray]; omega) W
    rw [refP_eq] at this
    exact this
  have HP := Lib.hid (fun r W => refPut_any r W)
  have hxl := (D_len 1 true _ x (Nat.le_refl _)).1
  obtain ⟨R, hR⟩ : ∃ R, (D 1 true x).1 = R := ⟨_, rfl⟩
  rw [hR] at hxl ⊢
  have HR := Lib.hid hR
  clear hR
  unfold strV at HP
  go_enter Try.func14, Try.ntmps14
  go_wp2_with fail
  go_loopw [1, 7] (fun bv sv wr => ∃ (l o : List UInt8), bv = .string ⟨l.toArray⟩ ∧ sv = .string ⟨o.toArray⟩ ∧ l.length ≤ x.length ∧ o.length + 4 * l.length ≤ 4 * x.length ∧ Hid (R = o ++ (D 1 true l).1) ∧ Hid (Below w.heap.size w wr)) (fun bv _ _ => match bv with | .string s => s.size | _ => 0)
  case atStart => exact ⟨x, [], rfl, rfl, Nat.le_refl _, by simp, by show R = _; rw [HR.out]; rfl, Below.refl _ _⟩
  case round =>
    obtain ⟨l, o, rfl, rfl, hl, hol, hD, hbw⟩ := hrel
    have hzl : (⟨l.toArray⟩ : ByteArray).size = l.length := rfl
    have hzo : (⟨o.toArray⟩ : ByteArray).size = o.length := rfl
    by_cases hl0 : l = []
    · subst hl0
      have HD : Hid (R = o) := by show R = _; rw [hD.out, D_nil]; simp
      simp only [List.length_nil] at hzl
      clear hD hl hol
      go_wp2_with fail
      go_ret
      rw [HD.out]
      exact ⟨rfl, hbw.out⟩
    · have hpos : 0 < l.length := List.length_pos_iff.2 hl0
      have hbd := stepD_bd 1 true l hl0
      have hst := hD.out
      rw [D_step hl0 (hbd.2.2 rfl)] at hst
      rw [stepD_one] at hst hbd
      have HGG := Lib.hid (HG.out l wr (by omega))
      obtain ⟨X, hX⟩ : ∃ X, getP l = X := ⟨_, rfl⟩
      rw [hX] at hst hbd HGG
      obtain ⟨r, n⟩ := X
      simp only at hst hbd HGG
      obtain ⟨k, hk⟩ := Int.eq_ofNat_of_zero_le hbd.1
      subst hk
      rw [Int.toNat_natCast] at hst
      have hpb := putL_bd r
      have HPUT := Lib.hid (fun W => HP.out r W)
      have hzp : (⟨(putL r).toArray⟩ : ByteArray).size = (putL r).length := rfl
      have HCAT := Lib.hid (cat_ o (putL r))
      have HEX := Lib.hid (ext_mk l k)
      have HST : Hid (R = (o ++ putL r) ++ (D 1 true (l.drop k)).1) := by show R = _; rw [hst, List.append_assoc]
      have hdl : (l.drop k).length = l.length - k := List.length_drop
      have hk1 : 1 ≤ k := by have := hbd.2.2 trivial; omega
      have hk2 : k ≤ l.length := by have := hbd.2.1; omega
      have HLL : Hid ((l.drop k).length = l.length - k ∧ (o ++ putL r).length = o.length + (putL r).length) := ⟨hdl, List.length_append⟩
      obtain ⟨ll, hll⟩ : ∃ m, l.length = m := ⟨_, rfl⟩
      obtain ⟨lo, hlo⟩ : ∃ m, o.length = m := ⟨_, rfl⟩
      obtain ⟨lp, hlp⟩ : ∃ m, (putL r).length = m := ⟨_, rfl⟩
      rw [hll] at hzl hl hol hpos HEX hk2 HLL
      rw [hlo] at hzo hol HLL
      rw [hlp] at hzp hpb HLL
      have i1 : (k : Int) ≤ (ll : Int) := by omega
      have i2 : (0 : Int) < (ll : Int) := by omega
      have i3 : lo + lp ≤ 100000 := by omega
      clear hst hD hX hbd hdl hll hlo hlp HG
      generalize hb1 : (⟨l.toArray⟩ : ByteArray) = bl at *
      generalize hb2 : (⟨o.toArray⟩ : ByteArray) = bo at *
      generalize hb3 : (⟨(putL r).toArray⟩ : ByteArray) = bp at *
      clear hb1 hb2 hb3
      go_wp2_with (first
        | (go_at_call 19; refine HGG.out.mono ?_; rintro e1 w1 ⟨rfl, hb1⟩; have HB1 := Lib.hid (below_trans hbw.out hb1); clear hb1)
        | (go_at_call 15; refine (HPUT.out _).mono ?_; rintro e2 w2 ⟨rfl, hb2⟩; have HB2 := Lib.hid (below_trans HB1.out hb2); clear hb2))
      go_roundw
      case rel => exact ⟨l.drop k, o ++ putL r, by rw [HEX.out], by rw [HCAT.out], by rw [HLL.out.1]; omega, by rw [HLL.out.1, HLL.out.2]; omega, HST.out, HB2.out⟩
      case measure =>
        rw [HEX.out]
        show (l.drop k).length < bl.size
        rw [HLL.out.1, hzl]; omega
set_option maxRecDepth 20000 in
set_option maxHeartbeats 8000000 in
theorem rtext_2 (k : Int) (x : List UInt8) (w : World) (h1 : ¬ k = 1) (hk : twoP k = true) (hx : x.length ≤ 10000) :
    Calls Try.prog 14 #[.int .i64 k, .string ⟨x.toArray⟩] w fun e w' => e = .returned (.string ⟨(D k true x).1.toArray⟩) ∧ Below w.heap.size w w' := by
  have HU := Lib.hid (fun W => rUnits_any k x W (by omega))
  have HJ := Lib.hid (fun (us : List Int) A c (W : World) (hr : Rd W W.heap.size 1 A us.length (us.map iV)) (hcc : us.length ≤ c) (hh : us.length ≤ 1000000) => refJoin_any us A us.length c W.heap.size W hr hh hcc)
  unfold JoinTo at HJ
  have HP := Lib.hid (fun r W => refPut_any r W)
  have hu := D_units k h1 hk _ x (Nat.le_refl _)
  have hul := unitsB_len k x
  obtain ⟨R, hR⟩ : ∃ R, (D k true x).1 = R := ⟨_, rfl⟩
  rw [hR] at hu ⊢
  obtain ⟨us0, hus⟩ : ∃ us, unitsB k x = us := ⟨_, rfl⟩
  rw [hus] at hu hul HU
  have HR := Lib.hid hu
  have hzx : (⟨x.toArray⟩ : ByteArray).size = x.length := rfl
  have hk0 : (k == 0) = false := by
    rw [beq_eq_false_iff_ne]; rintro rfl; exact absurd hk (by decide)
  have hk1 : (k == 1) = false := by simpa using h1
  have hk23 : (k = 2) ∨ (k = 3 ∧ (k != 2) = true) := by
    unfold twoP at hk
    simp at hk
    rcases hk with h | h
    · exact .inl h
    · exact .inr ⟨h, by rw [h]; rfl⟩
  unfold strV at HP
  have HODD : Hid (oddT x = if x.length % 2 = 1 then [239, 191, 189] else []) := rfl
  clear hR hu hus h1 hk
  obtain ⟨lx, hlx⟩ : ∃ m, x.length = m := ⟨_, rfl⟩
  rw [hlx] at hx hul hzx HODD
  clear hlx
  generalize hb0 : (⟨x.toArray⟩ : ByteArray) = bx at *
  clear hb0
  rcases hk23 with rfl | ⟨rfl, -⟩
  all_goals
    go_enter Try.func14, Try.ntmps14
    go_wp2_with (go_at_call 20; refine (HU.out _).mono ?_; rintro e1 w1 ⟨v1, rfl, hown1, hb1, -⟩; obtain ⟨A1, c1, rfl, -, -⟩ := hown1.len_; have HB1 := Lib.hid hb1; have HO1 := Lib.hid hown1; clear hb1 hown1)
    go_loopw [7, 10] (fun sv uv wr => ∃ (us : List Int) (o : List UInt8), sv = .string ⟨o.toArray⟩ ∧ Hid (Own wr 3 1 uv us.length (us.map iV)) ∧ us.length ≤ lx ∧ o.length + 4 * us.length ≤ 4 * lx ∧ Hid (JT us0 = o ++ JT us) ∧ Hid (Below w.heap.size w wr)) (fun _ uv _ => sliceN (some uv))
    case' atStart => exact ⟨us0, [], rfl, HO1.out, by omega, by simp; omega, by show _ = _; rfl, HB1.out⟩
    case' round =>
      obtain ⟨us, o, rfl, hown, hl, hol, hJ, hbw⟩ := hrel
      obtain ⟨A, c, rfl, hc, -⟩ := hown.out.len_
      have hzo : (⟨o.toArray⟩ : ByteArray).size = o.length := rfl
      by_cases hl0 : us = []
      · subst hl0
        have HD : Hid (JT us0 = o) := by show JT us0 = _; rw [hJ.out, JT_nil]; simp
        simp only [List.length_nil] at hol ⊢
        have HCAT := Lib.hid (cat_ o [239, 191, 189])
        obtain ⟨lo, hlo⟩ : ∃ m, o.length = m := ⟨_, rfl⟩
        rw [hlo] at hzo hol
        clear hJ hl hlo hown hc
        generalize hb2 : (⟨o.toArray⟩ : ByteArray) = bo at *
        have HB2' := Lib.hid hb2
        clear hb2
        by_cases hodd : lx % 2 = 1
        · have i5 : ((lx : Int) % 2 == 1) = true := by rw [beq_iff_eq]; omega
          have HRR : Hid (R = o ++ [239, 191, 189]) := by show R = _; rw [HR.out, HD.out, HODD.out, if_pos hodd]
          clear hodd
          go_wp2_with fail
          go_ret
          rw [HRR.out]
          exact ⟨by rw [← HCAT.out]; rfl, hbw.out⟩
        · have i5 : ((lx : Int) % 2 == 1) = false := by rw [beq_eq_false_iff_ne]; omega
          have HRR : Hid (R = o) := by show R = _; rw [HR.out, HD.out, HODD.out, if_neg hodd]; simp
          clear hodd
          go_wp2_with fail
          go_ret
          rw [HRR.out]
          exact ⟨by rw [← HB2'.out]; rfl, hbw.out⟩
      · have hbd := joinP_bd us hl0
        have hpos : 0 < us.length := List.length_pos_iff.2 hl0
        have hst := hJ.out
        rw [JT_step hl0] at hst
        have HJJ := Lib.hid (HJ.out us A c wr hown.out.rd hc (by omega))
        obtain ⟨X, hX⟩ : ∃ X, joinP us = X := ⟨_, rfl⟩
        rw [hX] at hst hbd HJJ
        obtain ⟨r, n⟩ := X
        simp only at hst hbd HJJ
        obtain ⟨q, hq⟩ := Int.eq_ofNat_of_zero_le (show 0 ≤ n by omega)
        subst hq
        rw [Int.toNat_natCast] at hst
        have hq2 : q ≤ us.length := by omega
        obtain ⟨A', c', hsl, hown2⟩ := it_tail hown.out q hq2
        have HOW2 := Lib.hid hown2
        have HSL := Lib.hid hsl
        have HOW3 : Hid (∀ W, Below wr.heap.size wr W → Own W 3 1 (.slice A' (us.length - q) c') (us.length - q) ((us.drop q).map iV)) := fun W hW => hown2.below hW (fun k hk => hown2.lt hk)
        have hpb := putL_bd r
        have HPUT := Lib.hid (fun W => HP.out r W)
        have hzp : (⟨(putL r).toArray⟩ : ByteArray).size = (putL r).length := rfl
        have HCAT := Lib.hid (cat_ o (putL r))
        have HST : Hid (JT us0 = (o ++ putL r) ++ JT (us.drop q)) := by show JT us0 = _; rw [hst, List.append_assoc]
        have hq1 : 1 ≤ q := by omega
        have HLL : Hid ((us.drop q).length = us.length - q ∧ (o ++ putL r).length = o.length + (putL r).length) := ⟨List.length_drop, List.length_append⟩
        have HQ := Lib.hid hq2
        obtain ⟨ll, hll⟩ : ∃ m, us.length = m := ⟨_, rfl⟩
        obtain ⟨lo, hlo⟩ : ∃ m, o.length = m := ⟨_, rfl⟩
        obtain ⟨lp, hlp⟩ : ∃ m, (putL r).length = m := ⟨_, rfl⟩
        rw [hll] at hl hol hpos HLL HSL HOW3 HJJ HQ ⊢
        rw [hlo] at hzo hol HLL
        rw [hlp] at hzp hpb HLL
        have i2 : (0 : Int) < (ll : Int) := by omega
        have i3 : lo + lp ≤ 100000 := by omega
        clear hst hJ hX hbd hll hlo hlp HJ hsl hown2 hq2 HOW2 hc
        generalize hb2 : (⟨o.toArray⟩ : ByteArray) = bo at *
        generalize hb3 : (⟨(putL r).toArray⟩ : ByteArray) = bp at *
        clear hb2 hb3
        have hsl := HSL.out
        go_wp2_with (first
          | (go_at_call 21; refine HJJ.out.mono ?_; rintro e1 w1 ⟨rfl, rfl⟩)
          | (go_at_call 15; refine (HPUT.out _).mono ?_; rintro e2 w2 ⟨rfl, hb2⟩; have HB2 := Lib.hid hb2; clear hb2))
        go_roundw
        case rel => exact ⟨us.drop q, o ++ putL r, by rw [HCAT.out], by rw [HLL.out.1]; exact HOW3.out _ HB2.out, by rw [HLL.out.1]; omega, by rw [HLL.out.1, HLL.out.2]; have := HQ.out; omega, HST.out, below_trans hbw.out HB2.out⟩
        case measure => show ll - q < ll; omega
end Go.Proofs.Ytoagjhhdijebmaa
