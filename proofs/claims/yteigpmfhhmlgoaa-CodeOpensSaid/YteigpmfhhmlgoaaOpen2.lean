/-
  The contract of the function Open of the document's code; no condition beyond those that each theorem states.
-/
import Derived.Test.YteigpmfhhmlgoaaOpen1
namespace Go.Proofs.Yteigpmfhhmlgoaa
open Go.RowKit Go.Rb
attribute [local irreducible] Go.wpQuiet

def xOf (i : Nat) : UInt8 := if i = 0 then 128 else 191
def fnd (l : List UInt8) (k i : Nat) : Prop := (getP (fillW l k (xOf i))).2 = ((l.length + k : Nat) : Int)
def ROpen (l : List UInt8) : Prop := l = [] ∨ (¬ 1 < (getP l).2 ∧ l.length ≤ 3 ∧ 128 ≤ headI l ∧ ∃ k i, 1 ≤ k ∧ l.length + k ≤ 4 ∧ i < 2 ∧ fnd l k i)
noncomputable instance (l : List UInt8) : Decidable (ROpen l) := Classical.propDecidable _

theorem loop_ne (s : ByteArray) (k : Nat) : ∀ (i : Nat) (r : List UInt8), s.size - i = k → r ≠ [] → ByteArray.toList.loop s i r ≠ [] := by
  induction k with
  | zero =>
    intro i r h hr
    rw [ByteArray.toList.loop]
    rw [if_neg (by omega)]
    simpa using hr
  | succ k ih =>
    intro i r h hr
    rw [ByteArray.toList.loop]
    rw [if_pos (by omega)]
    exact ih (i + 1) _ (by omega) (by simp)
theorem tl_ne (s : ByteArray) (h : s.size ≠ 0) : s.toList.isEmpty = false := by
  unfold ByteArray.toList
  rw [ByteArray.toList.loop, if_pos (by omega)]
  have := loop_ne s _ 1 [s.get! 0] rfl (by simp)
  cases hh : ByteArray.toList.loop s 1 [s.get! 0] with
  | nil => exact absurd hh this
  | cons => rfl

set_option maxRecDepth 20000 in
set_option maxHeartbeats 8000000 in
theorem refOpen_any (s : ByteArray) (hm : s.size ≤ 1000000) (w : World) :
    Calls Try.prog 24 #[.string s] w fun e w' => e = .returned (.bool (decide (ROpen s.data.toList))) ∧ Below w.heap.size w w' := by
  by_cases h0 : s.size = 0
  · have hs : s = ⟨#[]⟩ := by
      cases s with
      | mk d => congr 1; exact Array.eq_empty_of_size_eq_zero h0
    subst hs
    have hR : decide (ROpen (⟨#[]⟩ : ByteArray).data.toList) = true := decide_eq_true (.inl rfl)
    rw [hR]
    clear hR h0 hm
    go_enter Try.func24, Try.ntmps24
    go_wp2
    go_ret
    exact ⟨rfl, Below.refl _ _⟩
  · have hG := refGet_any s hm w
    rw [refP_eq] at hG
    obtain ⟨ch, t, hct⟩ : ∃ ch t, s.data.toList = ch :: t := by
      cases h : s.data.toList with
      | nil => exact absurd (by show s.data.size = 0; rw [← Array.length_toList, h]; rfl) h0
      | cons ch t => exact ⟨ch, t, rfl⟩
    have hidx := idx_str s 0 (by omega)
    have hs0 : s[0]'(by omega) = ch := by
      have h1 : s[0]'(by omega) = s.data.toList[0]'(by rw [hct]; simp) := by rw [Array.getElem_toList]; rfl
      rw [h1]
      simp [hct]
    rw [hs0] at hidx
    have hval := value_any (s.extract 0 1) (by rw [extract_size s 1 (by omega)]; omega) (by rw [extract_size s 1 (by omega)]; omega)
    have hv1 : valP (s.extract 0 1).data.toList = valHead (ch.toNat : Int) := by
      rw [extract_take, hct]; rfl
    rw [hv1] at hval
    have hse : s.toList.isEmpty = false := tl_ne s h0
    have hidx0 : ∀ w, (Instr.index 9 (.string s) (.int .i64 0)).run Try.prog w = .ok (.int .u8 (ch.toNat : Int)) w := hidx
    clear hidx
    have hhead : headI s.data.toList = (ch.toNat : Int) := by rw [hct]; rfl
    obtain ⟨l, hl⟩ : ∃ l, s.data.toList = l := ⟨_, rfl⟩
    have HS : Hid (s = ⟨l.toArray⟩) := by show _ = _; rw [← hl]
    have hll : l.length = s.size := by rw [← hl, Array.length_toList]; rfl
    rw [hl] at hG hhead ⊢
    have hc := ch.toNat_lt
    obtain ⟨n, hn⟩ : ∃ n, s.size = n := ⟨_, rfl⟩
    rw [hn] at hll h0
    have HL : Hid (l.length = n) := hll
    have HHD := Lib.hid hhead
    have HG := Lib.hid hG
    have hV : Hid (∀ W, Calls Try.prog 26 #[.string (s.extract 0 1)] W fun e w' => e = .returned (.int .i64 (valHead (ch.toNat : Int))) ∧ W = w') := fun W => by
      have := value_any (s.extract 0 1) (by rw [extract_size s 1 (by omega)]; omega) (by rw [extract_size s 1 (by omega)]; omega) W
      rw [hv1] at this
      exact this
    have hx1 : (1 : Int) ≤ (n : Int) := by omega
    have hl0 : l ≠ [] := by rw [← hl, hct]; simp
    have HL0 := Lib.hid hl0
    clear hs0 hval hv1 hhead hG hll hct hl hl0
    generalize hch : (ch.toNat : Int) = x at *
    have hx2 : 0 ≤ x ∧ x < 256 := by omega
    obtain ⟨y, hy⟩ : ∃ y, (getP l).2 = y := ⟨_, rfl⟩
    have HY := Lib.hid hy
    rw [hy] at HG
    generalize (getP l).1 = y0 at *
    have HV := Lib.hid (show valHead x = valHead x from rfl)
    obtain ⟨vh, hvh⟩ : ∃ v, valHead x = v := ⟨_, rfl⟩
    have HVH := Lib.hid hvh
    rw [hvh] at hV
    have hcases := valHead_cases x
    rw [hvh] at hcases
    have HCS := Lib.hid hcases
    clear hch hy hvh hcases hc HV
    by_cases h1 : 1 < y
    · have b17 : decide (1 < y) = true := by simpa using h1
      have HNR : Hid (¬ ROpen l) := by
        rintro (h | ⟨h, _⟩)
        · exact HL0.out h
        · exact h (by rw [HY.out]; exact h1)
      go_enter Try.func24, Try.ntmps24
      go_wp2_with (go_at_call 22; refine HG.out.mono ?_; rintro e2 w2 ⟨rfl, hb2⟩; have HB2 := Lib.hid hb2; clear hb2)
      go_quiet ((go_at_call 26; exact quiet_left (hV.out _)))
      go_wp2_with fail
      go_ret
      exact ⟨by rw [decide_eq_false HNR.out]; rfl, below_drewN HB2.out nq⟩
    · have b17 : decide (1 < y) = false := by simpa using h1
      have HNB : Hid (¬ 1 < (getP l).2) := by rw [HY.out]; exact h1
      by_cases h3 : 3 < n
      · have b21 : decide ((3 : Int) < (n : Int)) = true := by simp; omega
        have HNR : Hid (¬ ROpen l) := by
          rintro (h | ⟨_, h, _⟩)
          · exact HL0.out h
          · have := HL.out; omega
        go_enter Try.func24, Try.ntmps24
        go_wp2_with (go_at_call 22; refine HG.out.mono ?_; rintro e2 w2 ⟨rfl, hb2⟩; have HB2 := Lib.hid hb2; clear hb2)
        go_quiet ((go_at_call 26; exact quiet_left (hV.out _)))
        go_wp2_with fail
        go_ret
        exact ⟨by rw [decide_eq_false HNR.out]; rfl, below_drewN HB2.out nq⟩
      · have b21 : decide ((3 : Int) < (n : Int)) = false := by simp; omega
        have hn3 : n ≤ 3 := by omega
        by_cases h8 : x < 128
        · have b30 : (vh == x) = true := by rw [beq_iff_eq]; rcases HCS.out with h | h | h | h <;> omega
          have b34 : decide (x < 128) = true := by simpa using h8
          have HNR : Hid (¬ ROpen l) := by
            rintro (h | ⟨_, _, h, _⟩)
            · exact HL0.out h
            · rw [HHD.out] at h; omega
          go_enter Try.func24, Try.ntmps24
          go_wp2_with (go_at_call 22; refine HG.out.mono ?_; rintro e2 w2 ⟨rfl, hb2⟩; have HB2 := Lib.hid hb2; clear hb2)
          go_quiet ((go_at_call 26; exact quiet_left (hV.out _)))
          go_wp2_with fail
          go_ret
          exact ⟨by rw [decide_eq_false HNR.out]; rfl, below_drewN HB2.out nq⟩
        · have b34 : decide (x < 128) = false := by simpa using h8
          have hc128 : 128 ≤ headI l := by rw [HHD.out]; omega
          by_cases h9 : x < 192
          · have b30 : (vh == x) = true := by rw [beq_iff_eq]; rcases HCS.out with h | h | h | h <;> omega
            go_enter Try.func24, Try.ntmps24
            go_wp2_with (go_at_call 22; refine HG.out.mono ?_; rintro e2 w2 ⟨rfl, hb2⟩; have HB2 := Lib.hid hb2; clear hb2)
            go_quiet ((go_at_call 26; exact quiet_left (hV.out _)))
            have HB3 : Hid (Below w.heap.size w (w2.drewN nq)) := below_drewN HB2.out nq
            generalize w2.drewN nq = w3 at *
            go_wp2_with fail
            go_loopw [5] (fun kv wr => ∃ k : Nat, 1 ≤ k ∧ k ≤ 4 ∧ kv = .int .i64 k ∧ Below w.heap.size w wr ∧ ∀ k' i, 1 ≤ k' → k' < k → i < 2 → ¬ fnd l k' i) (fun kv _ => 5 - (intOf kv).toNat)
            case atStart => exact ⟨1, by omega, by omega, rfl, HB3.out, fun k' i h1 h2 => by omega⟩
            case round =>
              obtain ⟨k, hk1, hk4, rfl, hbw, hno⟩ := hrel
              have HB4 := Lib.hid hbw; have HNO := Lib.hid hno
              clear hbw hno
              by_cases hlt : n + k ≤ 4
              · have i5 : (n : Int) + (k : Int) ≤ 4 := by omega
                go_wp2_with fail
                go_loopw [6] (fun iv wr => ∃ i : Nat, i ≤ 2 ∧ iv = .int .i64 i ∧ Below w.heap.size w wr ∧ ∀ i', i' < i → ¬ fnd l k i') (fun iv _ => 2 - (intOf iv).toNat)
                case atStart => exact ⟨0, by omega, rfl, HB4.out, fun i' h => by omega⟩
                case round =>
                  obtain ⟨i, hi, rfl, hbw, hno2⟩ := hrel
                  have HB5 := Lib.hid hbw; have HNO2 := Lib.hid hno2
                  clear hbw hno2
                  by_cases hi2 : i < 2
                  · have i6 : (i : Int) < 2 := by omega
                    obtain ⟨q, hq⟩ : ∃ q : Nat, (63 : Int) * (i : Int) = (q : Int) := ⟨63 * i, by omega⟩
                    obtain ⟨z, hz⟩ : ∃ z : Nat, (128 : Int) + (q : Int) = (z : Int) := ⟨128 + q, by omega⟩
                    have hzx : xOf i = UInt8.ofNat z := by
                      rcases (by omega : i = 0 ∨ i = 1) with rfl | rfl
                      · have : z = 128 := by omega
                        subst this; rfl
                      · have : z = 191 := by omega
                        subst this; rfl
                    have hz1 : 128 ≤ z ∧ z ≤ 191 := by omega
                    have hzt : (UInt8.ofNat z).toNat = z := by rw [UInt8.toNat_ofNat']; omega
                    have hz256 : (z : Int) % 256 = (z : Int) := by omega
                    have HZX := Lib.hid hzx; have HZT := Lib.hid hzt
                    clear hzx hzt
                    go_wp2_with fail
                    go_loopw [7, 8] (fun xv jv wr => ∃ j : Nat, j ≤ k ∧ jv = .int .i64 j ∧ xv = .string ⟨(fillW l j (xOf i)).toArray⟩ ∧ Below w.heap.size w wr) (fun _ jv _ => k - (intOf jv).toNat)
                    case atStart => exact ⟨0, by omega, rfl, by rw [HS.out]; simp [fillW], HB5.out⟩
                    case round =>
                      obtain ⟨j, hj, rfl, rfl, hbw⟩ := hrel
                      have HB6 := Lib.hid hbw
                      clear hbw
                      have hxs : (⟨(fillW l j (xOf i)).toArray⟩ : ByteArray).size = n + j := by show (fillW l j (xOf i)).toArray.size = _; rw [List.size_toArray, fillW_len, HL.out]
                      by_cases hjk : j < k
                      · have i7 : (j : Int) < (k : Int) := by omega
                        have hcv : (convert 24 9 (.slice (some ⟨wr.heap.size, 0, none⟩) 1 1)).run Try.prog (wr.alloc (.cells #[.int .u8 (z : Int)] 5)) = .ok (.string ⟨#[xOf i]⟩) (wr.alloc (.cells #[.int .u8 (z : Int)] 5)) := by
                          have := conv_own (bs := [xOf i]) (n := 1) (v := .slice (some ⟨wr.heap.size, 0, none⟩) 1 1) (W := wr.alloc (.cells #[.int .u8 (z : Int)] 5)) (by
                            have := Own.lit wr 5 1 1 #[.int .u8 (z : Int)] rfl (by decide)
                            rw [show ([xOf i].map bV) = [.int .u8 (z : Int)] from by rw [HZX.out]; simp [bV, HZT.out]]
                            exact this)
                          exact this
                        have hcat : (⟨(fillW l j (xOf i)).toArray⟩ : ByteArray) ++ ⟨#[xOf i]⟩ = ⟨(fillW l (j + 1) (xOf i)).toArray⟩ := by rw [fillW_succ]; exact cat_ _ [xOf i]
                        have hs1 : (⟨#[xOf i]⟩ : ByteArray).size = 1 := rfl
                        have HBA := Lib.hid (below_al HB6.out (.cells #[.int .u8 (z : Int)] 5))
                        generalize (⟨(fillW l j (xOf i)).toArray⟩ : ByteArray) = X0 at *
                        generalize hX1 : (⟨(fillW l (j + 1) (xOf i)).toArray⟩ : ByteArray) = X1 at *
                        have HX1 := Lib.hid hX1
                        clear hX1
                        generalize (⟨#[xOf i]⟩ : ByteArray) = X2 at *
                        have hsum : X0.size + X2.size ≤ 100 := by omega
                        go_wp2_with (rw [hcv])
                        go_roundw
                        case rel => exact ⟨j + 1, by omega, by go_num, by rw [HX1.out], HBA.out⟩
                        case measure => simp [intOf]; omega
                      · obtain rfl : j = k := by omega
                        have hG := refGet_any (⟨(fillW l j (xOf i)).toArray⟩ : ByteArray) (by rw [hxs]; omega) wr
                        rw [refP_eq] at hG
                        have hG2 := Lib.hid hG
                        clear hG
                        have hFF : fnd l j i ↔ (getP (fillW l j (xOf i))).2 = ((n + j : Nat) : Int) := by unfold fnd; rw [HL.out]
                        have HFF := Lib.hid hFF
                        clear hFF
                        generalize hp : getP (fillW l j (xOf i)) = p at *
                        obtain ⟨px, py⟩ := p
                        simp only at hG2 HFF
                        clear hp
                        generalize (⟨(fillW l j (xOf i)).toArray⟩ : ByteArray) = X0 at *
                        generalize hnj : n + j = nj at *
                        have HNJ := Lib.hid hnj
                        clear hnj
                        by_cases hf : py = ((nj : Nat) : Int)
                        · have hR : Hid (ROpen l) := .inr ⟨by have := HNB.out; omega, by rw [HL.out]; exact hn3, hc128, j, i, hk1, by rw [HL.out]; have := HNJ.out; omega, hi2, HFF.out.2 hf⟩
                          subst hf
                          have i8 : (1 : Int) < ((nj : Nat) : Int) := by have := HNJ.out; omega
                          go_wp2_with (go_at_call 22; refine hG2.out.mono ?_; rintro e8 w8 ⟨rfl, hb8⟩; have HB8 := Lib.hid (below_trans HB6.out hb8); clear hb8)
                          go_ret
                          exact ⟨by rw [decide_eq_true hR.out]; rfl, HB8.out⟩
                        · have hfb : (py == ((nj : Nat) : Int)) = false := by simpa using hf
                          have hN3 : Hid (∀ i', i' < i + 1 → ¬ fnd l j i') := fun i' h => by
                            by_cases he : i' = i
                            · subst he; exact fun hh => hf (HFF.out.1 hh)
                            · exact HNO2.out i' (by omega)
                          clear hf
                          go_wp2_with (go_at_call 22; refine hG2.out.mono ?_; rintro e8 w8 ⟨rfl, hb8⟩; have HB8 := Lib.hid (below_trans HB6.out hb8); clear hb8)
                          go_roundw
                          case rel => exact ⟨i + 1, by omega, by go_num, HB8.out, hN3.out⟩
                          case measure => simp [intOf]; omega
                  · obtain rfl : i = 2 := by omega
                    have hN4 : Hid (∀ k' i, 1 ≤ k' → k' < k + 1 → i < 2 → ¬ fnd l k' i) := fun k' i h1 h2 h3 => by
                      by_cases he : k' = k
                      · subst he; exact HNO2.out i h3
                      · exact HNO.out k' i h1 (by omega) h3
                    go_wp2_with fail
                    go_roundw
                    case rel => exact ⟨k + 1, by omega, by omega, by go_num, HB5.out, hN4.out⟩
                    case measure => simp [intOf]; omega
              · have i5 : ¬ (n : Int) + (k : Int) ≤ 4 := by omega
                have hR : Hid (¬ ROpen l) := by
                  rintro (h | ⟨_, _, _, k', i, h1, h2, h3, h4⟩)
                  · rw [h] at HL; have := HL.out; simp at this; omega
                  · rw [HL.out] at h2
                    exact HNO.out k' i h1 (by omega) h3 h4
                go_wp2_with fail
                go_ret
                exact ⟨by rw [decide_eq_false hR.out]; rfl, HB4.out⟩
          · have b30 : (vh == x) = false := by rw [beq_eq_false_iff_ne]; rcases HCS.out with h | h | h | h <;> omega
            go_enter Try.func24, Try.ntmps24
            go_wp2_with (go_at_call 22; refine HG.out.mono ?_; rintro e2 w2 ⟨rfl, hb2⟩; have HB2 := Lib.hid hb2; clear hb2)
            go_quiet ((go_at_call 26; exact quiet_left (hV.out _)))
            have HB3 : Hid (Below w.heap.size w (w2.drewN nq)) := below_drewN HB2.out nq
            generalize w2.drewN nq = w3 at *
            go_wp2_with fail
            go_loopw [5] (fun kv wr => ∃ k : Nat, 1 ≤ k ∧ k ≤ 4 ∧ kv = .int .i64 k ∧ Below w.heap.size w wr ∧ ∀ k' i, 1 ≤ k' → k' < k → i < 2 → ¬ fnd l k' i) (fun kv _ => 5 - (intOf kv).toNat)
            case atStart => exact ⟨1, by omega, by omega, rfl, HB3.out, fun k' i h1 h2 => by omega⟩
            case round =>
              obtain ⟨k, hk1, hk4, rfl, hbw, hno⟩ := hrel
              have HB4 := Lib.hid hbw; have HNO := Lib.hid hno
              clear hbw hno
              by_cases hlt : n + k ≤ 4
              · have i5 : (n : Int) + (k : Int) ≤ 4 := by omega
                go_wp2_with fail
                go_loopw [6] (fun iv wr => ∃ i : Nat, i ≤ 2 ∧ iv = .int .i64 i ∧ Below w.heap.size w wr ∧ ∀ i', i' < i → ¬ fnd l k i') (fun iv _ => 2 - (intOf iv).toNat)
                case atStart => exact ⟨0, by omega, rfl, HB4.out, fun i' h => by omega⟩
                case round =>
                  obtain ⟨i, hi, rfl, hbw, hno2⟩ := hrel
                  have HB5 := Lib.hid hbw; have HNO2 := Lib.hid hno2
                  clear hbw hno2
                  by_cases hi2 : i < 2
                  · have i6 : (i : Int) < 2 := by omega
                    obtain ⟨q, hq⟩ : ∃ q : Nat, (63 : Int) * (i : Int) = (q : Int) := ⟨63 * i, by omega⟩
                    obtain ⟨z, hz⟩ : ∃ z : Nat, (128 : Int) + (q : Int) = (z : Int) := ⟨128 + q, by omega⟩
                    have hzx : xOf i = UInt8.ofNat z := by
                      rcases (by omega : i = 0 ∨ i = 1) with rfl | rfl
                      · have : z = 128 := by omega
                        subst this; rfl
                      · have : z = 191 := by omega
                        subst this; rfl
                    have hz1 : 128 ≤ z ∧ z ≤ 191 := by omega
                    have hzt : (UInt8.ofNat z).toNat = z := by rw [UInt8.toNat_ofNat']; omega
                    have hz256 : (z : Int) % 256 = (z : Int) := by omega
                    have HZX := Lib.hid hzx; have HZT := Lib.hid hzt
                    clear hzx hzt
                    go_wp2_with fail
                    go_loopw [7, 8] (fun xv jv wr => ∃ j : Nat, j ≤ k ∧ jv = .int .i64 j ∧ xv = .string ⟨(fillW l j (xOf i)).toArray⟩ ∧ Below w.heap.size w wr) (fun _ jv _ => k - (intOf jv).toNat)
                    case atStart => exact ⟨0, by omega, rfl, by rw [HS.out]; simp [fillW], HB5.out⟩
                    case round =>
                      obtain ⟨j, hj, rfl, rfl, hbw⟩ := hrel
                      have HB6 := Lib.hid hbw
                      clear hbw
                      have hxs : (⟨(fillW l j (xOf i)).toArray⟩ : ByteArray).size = n + j := by show (fillW l j (xOf i)).toArray.size = _; rw [List.size_toArray, fillW_len, HL.out]
                      by_cases hjk : j < k
                      · have i7 : (j : Int) < (k : Int) := by omega
                        have hcv : (convert 24 9 (.slice (some ⟨wr.heap.size, 0, none⟩) 1 1)).run Try.prog (wr.alloc (.cells #[.int .u8 (z : Int)] 5)) = .ok (.string ⟨#[xOf i]⟩) (wr.alloc (.cells #[.int .u8 (z : Int)] 5)) := by
                          have := conv_own (bs := [xOf i]) (n := 1) (v := .slice (some ⟨wr.heap.size, 0, none⟩) 1 1) (W := wr.alloc (.cells #[.int .u8 (z : Int)] 5)) (by
                            have := Own.lit wr 5 1 1 #[.int .u8 (z : Int)] rfl (by decide)
                            rw [show ([xOf i].map bV) = [.int .u8 (z : Int)] from by rw [HZX.out]; simp [bV, HZT.out]]
                            exact this)
                          exact this
                        have hcat : (⟨(fillW l j (xOf i)).toArray⟩ : ByteArray) ++ ⟨#[xOf i]⟩ = ⟨(fillW l (j + 1) (xOf i)).toArray⟩ := by rw [fillW_succ]; exact cat_ _ [xOf i]
                        have hs1 : (⟨#[xOf i]⟩ : ByteArray).size = 1 := rfl
                        have HBA := Lib.hid (below_al HB6.out (.cells #[.int .u8 (z : Int)] 5))
                        generalize (⟨(fillW l j (xOf i)).toArray⟩ : ByteArray) = X0 at *
                        generalize hX1 : (⟨(fillW l (j + 1) (xOf i)).toArray⟩ : ByteArray) = X1 at *
                        have HX1 := Lib.hid hX1
                        clear hX1
                        generalize (⟨#[xOf i]⟩ : ByteArray) = X2 at *
                        have hsum : X0.size + X2.size ≤ 100 := by omega
                        go_wp2_with (rw [hcv])
                        go_roundw
                        case rel => exact ⟨j + 1, by omega, by go_num, by rw [HX1.out], HBA.out⟩
                        case measure => simp [intOf]; omega
                      · obtain rfl : j = k := by omega
                        have hG := refGet_any (⟨(fillW l j (xOf i)).toArray⟩ : ByteArray) (by rw [hxs]; omega) wr
                        rw [refP_eq] at hG
                        have hG2 := Lib.hid hG
                        clear hG
                        have hFF : fnd l j i ↔ (getP (fillW l j (xOf i))).2 = ((n + j : Nat) : Int) := by unfold fnd; rw [HL.out]
                        have HFF := Lib.hid hFF
                        clear hFF
                        generalize hp : getP (fillW l j (xOf i)) = p at *
                        obtain ⟨px, py⟩ := p
                        simp only at hG2 HFF
                        clear hp
                        generalize (⟨(fillW l j (xOf i)).toArray⟩ : ByteArray) = X0 at *
                        generalize hnj : n + j = nj at *
                        have HNJ := Lib.hid hnj
                        clear hnj
                        by_cases hf : py = ((nj : Nat) : Int)
                        · have hR : Hid (ROpen l) := .inr ⟨by have := HNB.out; omega, by rw [HL.out]; exact hn3, hc128, j, i, hk1, by rw [HL.out]; have := HNJ.out; omega, hi2, HFF.out.2 hf⟩
                          subst hf
                          have i8 : (1 : Int) < ((nj : Nat) : Int) := by have := HNJ.out; omega
                          go_wp2_with (go_at_call 22; refine hG2.out.mono ?_; rintro e8 w8 ⟨rfl, hb8⟩; have HB8 := Lib.hid (below_trans HB6.out hb8); clear hb8)
                          go_ret
                          exact ⟨by rw [decide_eq_true hR.out]; rfl, HB8.out⟩
                        · have hfb : (py == ((nj : Nat) : Int)) = false := by simpa using hf
                          have hN3 : Hid (∀ i', i' < i + 1 → ¬ fnd l j i') := fun i' h => by
                            by_cases he : i' = i
                            · subst he; exact fun hh => hf (HFF.out.1 hh)
                            · exact HNO2.out i' (by omega)
                          clear hf
                          go_wp2_with (go_at_call 22; refine hG2.out.mono ?_; rintro e8 w8 ⟨rfl, hb8⟩; have HB8 := Lib.hid (below_trans HB6.out hb8); clear hb8)
                          go_roundw
                          case rel => exact ⟨i + 1, by omega, by go_num, HB8.out, hN3.out⟩
                          case measure => simp [intOf]; omega
                  · obtain rfl : i = 2 := by omega
                    have hN4 : Hid (∀ k' i, 1 ≤ k' → k' < k + 1 → i < 2 → ¬ fnd l k' i) := fun k' i h1 h2 h3 => by
                      by_cases he : k' = k
                      · subst he; exact HNO2.out i h3
                      · exact HNO.out k' i h1 (by omega) h3
                    go_wp2_with fail
                    go_roundw
                    case rel => exact ⟨k + 1, by omega, by omega, by go_num, HB5.out, hN4.out⟩
                    case measure => simp [intOf]; omega
              · have i5 : ¬ (n : Int) + (k : Int) ≤ 4 := by omega
                have hR : Hid (¬ ROpen l) := by
                  rintro (h | ⟨_, _, _, k', i, h1, h2, h3, h4⟩)
                  · rw [h] at HL; have := HL.out; simp at this; omega
                  · rw [HL.out] at h2
                    exact HNO.out k' i h1 (by omega) h3 h4
                go_wp2_with fail
                go_ret
                exact ⟨by rw [decide_eq_false hR.out]; rfl, HB4.out⟩
end Go.Proofs.Yteigpmfhhmlgoaa
