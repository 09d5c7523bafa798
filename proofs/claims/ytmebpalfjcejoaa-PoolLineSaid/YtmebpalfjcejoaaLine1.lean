/-
  The walk of reedbedlaw06.PoolLine: it returns true; no condition beyond those that each theorem states.
-/
import Derived.Test.YtmebpalfjcejoaaPool6
namespace Go.Proofs.Ytmebpalfjcejoaa
open Go.RowKit Go.Rb

theorem newI_own {w w' : World} {v : Value} {zs : List Int} (h : NewI w w' v zs) : ∃ A c, v = .slice A zs.length c ∧ Rd w' w'.heap.size 1 A zs.length (zs.map iV) := by
  obtain ⟨h1, _, _⟩ := h
  obtain ⟨A, c, rfl, hr, _⟩ := Own.rdI h1
  exact ⟨A, c, rfl, hr⟩

theorem In.push {B p n off c g : Nat} {w w' : World} {l : Value} {s : PS} (h : In B (fun q => l.ownBlock = some q) w p s) (o : Obj) (hg : (w.alloc o).grownBy w' l.ownBlock)
    (hat : l.ownBlock = some g ∨ g = (w.alloc o).heap.size) (hgl : g < w'.heap.size) : In B (fun q => (Value.slice (some ⟨g, off, none⟩) n c).ownBlock = some q) w' p s := by
  refine h.frame (U := fun q => l.ownBlock = some q ∨ w.heap.size ≤ q) ?_ (fun q hq => hq) (fun q hq => ?_)
  · exact (((Only.refl _ w).alloc o).grown hg fun k hk _ => .inl hk)
  · have e : g = q := by simpa [Value.ownBlock] using hq
    subst e
    refine ⟨?_, hgl⟩
    rcases hat with hat | hat
    · exact .inl hat
    · right; rw [hat]; simp

/-- K buffers of which the first k are taken. -/
def lineA (K k : Nat) : PS := ⟨List.replicate k 1 ++ List.replicate (K - k) 0, List.replicate K [], List.range' k (K - k), 1⟩
theorem lineA_zero (K : Nat) : newS K 1 = lineA K 0 := by simp [newS, lineA, List.range_eq_range']
theorem lineA_take (K k : Nat) (hk : k < K) : takeS (lineA K k) = lineA K (k + 1) ∧ takeX (lineA K k) = (k : Int) ∧ takeE (lineA K k) = 0 := by
  obtain ⟨j, hj⟩ : ∃ j, K - k = j + 1 := ⟨K - k - 1, by omega⟩
  have hj' : K - (k + 1) = j := by omega
  unfold takeS takeX takeE lineA
  rw [hj, hj', List.range'_succ]
  refine ⟨?_, rfl, rfl⟩
  dsimp only
  congr 1
  rw [List.set_append_right _ _ (by simp), List.length_replicate, Nat.sub_self, List.replicate_succ, List.set_cons_zero]
  rw [List.replicate_succ' (n := k), List.append_assoc]; rfl
theorem lineA_ln (K k : Nat) : ∀ x ∈ (lineA K k).ln, x < (lineA K k).hs.length := by
  intro x hx
  simp only [lineA, List.mem_range'_1] at hx
  simp only [lineA, List.length_append, List.length_replicate]
  omega

/-- None is held more than once; the line's are buffers. -/
structure LineB (K : Nat) (s : PS) : Prop where
  n : s.hs.length = K
  one : ∀ i, s.hs.getD i 0 ≤ 1
  ln : ∀ x ∈ s.ln, x < K
theorem lineA_all (K : Nat) : LineB K (lineA K K) ∧ (lineA K K).ln = [] := by
  refine ⟨⟨by simp [lineA], fun i => ?_, fun x hx => ?_⟩, by simp [lineA]⟩
  · simp only [lineA, Nat.sub_self, List.replicate_zero, List.append_nil, List.getD_eq_getElem?_getD, List.getElem?_replicate]
    split <;> simp
  · simp [lineA] at hx
theorem LineB.drop {K : Nat} {s : PS} (h : LineB K s) (x : Nat) (hx : x < K) :
    LineB K (dropS s x) ∧ (turnE s x = 0 ∧ (dropS s x).ln = s.ln ++ [x] ∨ turnE s x = 2 ∧ (dropS s x).ln = s.ln) := by
  unfold dropS turnE
  by_cases hh : heldB s x
  · obtain ⟨k, hk, hkl, h0, hO, -, ht⟩ := held_cases hh
    have hk' : x = k := by omega
    subst hk'
    have h1 : hOf s (x : Int) = 1 := by have := h.one x; omega
    rw [if_pos hh, if_pos hh, if_pos h1, ht]
    refine ⟨⟨by simp [h.n], fun i => ?_, fun y hy => ?_⟩, .inl ⟨rfl, rfl⟩⟩
    · simp only [List.getD_eq_getElem?_getD, List.getElem?_set]
      have := h.one i
      rw [List.getD_eq_getElem?_getD] at this
      split
      · first | (split <;> simp) | simp
      · exact this
    · simp only [List.mem_append, List.mem_singleton] at hy
      rcases hy with hy | hy
      · exact h.ln y hy
      · omega
  · rw [if_neg hh, if_neg hh]
    exact ⟨h, .inr ⟨rfl, rfl⟩⟩
theorem LineB.take {K : Nat} {s : PS} (h : LineB K s) {x : Nat} {t : List Nat} (hl : s.ln = x :: t) : LineB K (takeS s) ∧ (takeS s).ln = t ∧ takeX s = (x : Int) ∧ takeE s = 0 := by
  have hx := h.ln x (by rw [hl]; simp)
  unfold takeS takeX takeE
  rw [hl]
  refine ⟨⟨by simp [h.n], fun i => ?_, fun y hy => h.ln y (by rw [hl]; simp [hy])⟩, rfl, rfl, rfl⟩
  simp only [List.getD_eq_getElem?_getD, List.getElem?_set]
  have := h.one i
  rw [List.getD_eq_getElem?_getD] at this
  split
  · split <;> simp
  · exact this

theorem tmod_bd (n : Int) : -20 < n.tmod 20 ∧ n.tmod 20 < 20 := by
  have h1 := Int.tmod_lt_of_pos n (show (0 : Int) < 20 by omega)
  have h2 := Int.lt_tmod_of_pos n (show (0 : Int) < 20 by omega)
  omega
theorem kOf (n : Int) : ∃ K : Nat, 1 ≤ K ∧ K ≤ 20 ∧ 1 + n.tmod 20 % 20 = (K : Int) := by
  have h1 := tmod_bd n
  refine ⟨(1 + n.tmod 20 % 20).toNat, ?_, ?_, ?_⟩ <;> omega

set_option maxHeartbeats 4000000 in
theorem line_small (n : Int) (A : Option Addr) (m c : Nat) (xs : List UInt8) (w : World) (hr : Rd w w.heap.size 1 A m (xs.map bV)) (hm : m ≤ 60) :
    Calls Try.prog 3 #[.int .i64 n, .slice A m c] w fun e w' => e = .returned (.bool true) ∧ Below w.heap.size w w' := by
  obtain ⟨i0, hi0, hz0, hz1, hz2⟩ := info_parts info3
  have hA : Hid (∀ w, Calls Try.prog 8 #[] w fun e w' => e = .returned (.bool true) ∧ Below w.heap.size w w') := awake_any
  obtain ⟨K, hK1, hK2, hK⟩ := kOf n
  have t1 := tmod_bd n
  have hN : Hid (∀ W, Below w.heap.size w W → Calls Try.prog 9 #[.int .i64 (K : Int), .int .i64 1] W fun e w' => ∃ p, e = .returned (.tuple #[pp p, .int .i64 0]) ∧ Below W.heap.size W w' ∧ In w.heap.size NoT w' p (lineA K 0)) := by
    intro W hW
    have := new_in (B := w.heap.size) K 1 W NoT (fun _ h => h.elim) hK1 (by omega) (by omega) (by omega) hW.size
    rwa [lineA_zero] at this
  have HR := Lib.hid hr
  have hxl : xs.length = m := by simpa using hr.1
  have HX := Lib.hid hxl
  clear hr hxl
  go_enter Try.func3, Try.ntmps3
  go_wp2_with (go_at_call 8; refine (hA.out _).mono ?_; rintro e1 w1 ⟨rfl, hb1⟩; have HB1 := Lib.hid hb1; clear hb1)
  refine (hN.out _ HB1.out).mono ?_
  rintro e2 w2 ⟨p, rfl, hb2, hi2⟩
  have HB2 := Lib.hid (below_trans HB1.out hb2)
  have HI2 := Lib.hid hi2
  clear hb2 hi2 hK t1 hN HB1
  unfold pp
  go_wp2
  go_loopw [8] (fun i wr => ∃ k : Nat, k ≤ K ∧ i = .int .i64 k ∧ Below w.heap.size w wr ∧ In w.heap.size NoT wr p (lineA K k)) (fun i _ => K - (intOf i).toNat)
  case atStart => exact ⟨0, by omega, rfl, HB2.out, HI2.out⟩
  case round =>
    obtain ⟨k, hk, rfl, hbw, hin⟩ := hrel
    by_cases hlt : k < K
    · have i5 : (k : Int) < (K : Int) := by omega
      have hT := take_in hin (lineA_ln K k)
      obtain ⟨e1, e2, e3⟩ := lineA_take K k hlt
      rw [e1, e2, e3] at hT
      have HT := Lib.hid hT
      have HIN := Lib.hid hin
      have HBW := Lib.hid hbw
      clear hT e1 e2 e3 hin hbw
      unfold pp at HT
      go_wp2_with (go_at_call 10; refine HT.out.mono ?_; rintro e3 w3 ⟨rfl, hd3⟩; have HB3 := Lib.hid (HBW.out.trans (hd3.below HIN.out.1)); have HI3 := Lib.hid hd3.1; clear hd3)
      go_roundw
      case rel => exact ⟨k + 1, by omega, by go_num, HB3.out, HI3.out⟩
      case measure => simp [intOf]; omega
    · obtain rfl : k = K := by omega
      obtain ⟨hlb, hl0⟩ := lineA_all k
      generalize lineA k k = s0 at *
      have HIN := Lib.hid hin
      have HBW := Lib.hid hbw
      clear hin hbw
      go_wp2
      go_loopw [11, 12] (fun l i wr => ∃ (j : Nat) (s : PS), j ≤ m ∧ i = .int .i64 j ∧ s.ln.length ≤ j ∧ LineB k s ∧ Below w.heap.size w wr ∧ Own wr 3 1 l s.ln.length (s.ln.map nV) ∧ (∀ q, l.ownBlock = some q → w.heap.size ≤ q) ∧
        In w.heap.size (fun q => l.ownBlock = some q) wr p s) (fun _ i _ => m - (intOf i).toNat)
      case atStart =>
        refine ⟨0, s0, by omega, rfl, by simp [hl0], hlb, HBW.out, by rw [hl0]; exact Own.nil_ _ _ _, by simp [Value.ownBlock], ?_⟩
        exact HIN.out.frame (U := NoT) (Only.refl _ _) (fun _ h => h.elim) (fun _ h => by simp [Value.ownBlock] at h)
      case round =>
        obtain ⟨j, s, hj, rfl, hlen, hls, hbw, hown, hnew, hin⟩ := hrel
        by_cases hjm : j < m
        · obtain ⟨b, o, rfl, hb, hc⟩ := HR.out.2 (by omega)
          have i5 : (j : Int) < (m : Int) := by omega
          have c1 := hc j (by omega)
          rw [List.getElem?_map, List.getElem?_eq_getElem (by rw [HX.out]; omega)] at c1
          simp only [Option.map_some, bV] at c1
          have c1' := (hbw.cell (p := ⟨b, o + j, none⟩) hb).trans c1
          have hx8 : (xs[j]'(by rw [HX.out]; omega)).toNat ≤ 255 := by have := (xs[j]'(by rw [HX.out]; omega)).toNat_lt; omega
          generalize (xs[j]'(by rw [HX.out]; omega)).toNat = y at *
          obtain ⟨x, hx⟩ : ∃ x, x = y % k := ⟨_, rfl⟩
          have hxk : x < k := by rw [hx]; exact Nat.mod_lt _ (by omega)
          have i6 : (y : Int) % (k : Int) = (x : Int) := by rw [hx]; simp
          have i7 : ((k : Int) == 0) = false := by rw [beq_eq_false_iff_ne]; omega
          have hD := drop_in (x : Int) hin (by have := hls.one x; simp only [hOf, Int.toNat_natCast]; omega) (by omega)
          obtain ⟨hl2, hcase⟩ := hls.drop x hxk
          generalize dropS s (x : Int) = s2 at *
          obtain ⟨A1, cap1, rfl, -, -⟩ := hown.len_
          have HO := Lib.hid hown
          have HIN2 := Lib.hid hin
          have HBW2 := Lib.hid hbw
          have HNW := Lib.hid hnew
          clear hc c1 hown hin hbw hnew
          rcases hcase with ⟨ht, hl⟩ | ⟨ht, hl⟩
          · rw [ht] at hD
            have HD := Lib.hid hD
            have HL := Lib.hid hl
            clear hD ht hl hx
            unfold pp at HD
            generalize hsn : s.ln.length = sn at *
            go_wp2_with (first
              | (at_builtin; refine wpList_append_mine _ rfl (.tmp 73) (.tmp 75) _ rfl 3 i0 _ 1 8 Try.underlying30 hi0 hz0 hz1 hz2 rfl (by omega) (.slice A1 sn cap1) sn (s.ln.map nV) rfl (by exact HO3.out.alloc _) _ 1 1 [_] rfl rfl (by exact news_push rfl rfl) (by simp [Value.oneCell']) (by omega) (by simp only [maxLen]; omega) (by omega) _ rfl ?_; intro g4 o4 c4 w4 hown4 hgrow4 hat4)
              | (go_at_call 11; refine HD.out.mono ?_; rintro e3 w3 ⟨rfl, hd3⟩; have HO3 := Lib.hid (HO.out.only hd3.2 (fun kk hk h => h.2 hk)); have HB3 := Lib.hid (HBW2.out.trans (hd3.below HIN2.out.1)); have HI3 := Lib.hid hd3.1; clear hd3))
            have hs3 := HB3.out.size
            have hgl : g4 < w4.heap.size := hown4.lt rfl
            have HI4 := Lib.hid (HI3.out.push (n := sn + 1) (off := o4) (c := c4) _ hgrow4 hat4 hgl)
            have HB4 := Lib.hid (Below.grown (HB3.out.alloc hs3 _) hgrow4 (by simp; omega) (fun q hq => HNW.out q hq))
            have HN4 : Hid (∀ q, (Value.slice (some ⟨g4, o4, none⟩) (sn + 1) c4).ownBlock = some q → w.heap.size ≤ q) := by
              intro q hq
              have e : g4 = q := by simpa [Value.ownBlock] using hq
              subst e
              rcases hat4 with h | h
              · exact HNW.out _ h
              · rw [h]; simp; omega
            have HO4 : Hid (Own w4 3 1 (.slice (some ⟨g4, o4, none⟩) (sn + 1) c4) s2.ln.length (s2.ln.map nV)) := by
              show Own _ _ _ _ _ _
              rw [HL.out]
              simpa [hsn, nV] using hown4
            clear hown4 hgrow4 hat4
            go_wp2
            go_roundw
            case rel => exact ⟨j + 1, s2, by omega, by go_num, by rw [HL.out]; simp; omega, hl2, HB4.out, HO4.out, HN4.out, HI4.out⟩
            case measure => simp [intOf]; omega
          · rw [ht] at hD
            have HD := Lib.hid hD
            have HL := Lib.hid hl
            clear hD ht hl hx
            unfold pp at HD
            go_wp2_with (go_at_call 11; refine HD.out.mono ?_; rintro e3 w3 ⟨rfl, hd3⟩; have HO3 := Lib.hid (HO.out.only hd3.2 (fun kk hk h => h.2 hk)); have HB3 := Lib.hid (HBW2.out.trans (hd3.below HIN2.out.1)); have HI3 := Lib.hid hd3.1; clear hd3)
            go_roundw
            case rel => exact ⟨j + 1, s2, by omega, by go_num, by rw [HL.out]; omega, hl2, HB3.out, by rw [HL.out]; exact HO3.out, HNW.out, HI3.out⟩
            case measure => simp [intOf]; omega
        · obtain ⟨A1, cap1, rfl, -, -⟩ := hown.len_
          have HO := Lib.hid hown
          have HIN2 := Lib.hid hin
          have HBW2 := Lib.hid hbw
          clear hown hin hbw hnew
          generalize hL0 : s.ln = l0 at *
          go_wp2
          go_loopw [14] (fun i wr => ∃ (j : Nat) (s : PS), j ≤ l0.length ∧ i = .int .i64 j ∧ s.ln = l0.drop j ∧ LineB k s ∧ Below w.heap.size w wr ∧ Own wr 3 1 (.slice A1 l0.length cap1) l0.length (l0.map nV) ∧
            In w.heap.size (fun q => (Value.slice A1 l0.length cap1).ownBlock = some q) wr p s) (fun i _ => l0.length - (intOf i).toNat)
          case atStart => exact ⟨0, s, by omega, rfl, by simpa using hL0, hls, HBW2.out, HO.out, HIN2.out⟩
          case round =>
            obtain ⟨j', s', hj', rfl, hln', hls', hbw', hown', hin'⟩ := hrel
            by_cases hjl : j' < l0.length
            · rw [List.drop_eq_getElem_cons hjl] at hln'
              obtain ⟨hl3, hln3, hX, hE⟩ := hls'.take hln'
              have hT := take_in hin' (fun q hq => by rw [hls'.n]; exact hls'.ln q hq)
              rw [hX, hE] at hT
              obtain ⟨b1, o1, cp1, hA1, -, -, -, hc1, -⟩ := hown'.form (by omega)
              have c2 := hc1 j' (by omega)
              rw [List.getElem?_map, List.getElem?_eq_getElem hjl] at c2
              simp only [Option.map_some, nV] at c2
              simp only [Value.slice.injEq, true_and] at hA1
              obtain ⟨rfl, rfl⟩ := hA1
              have i5 : (j' : Int) < (l0.length : Int) := by omega
              generalize takeS s' = s3 at *
              have HO3 := Lib.hid hown'
              have HI3 := Lib.hid hin'
              have HB3 := Lib.hid hbw'
              have HT := Lib.hid hT
              have HL3 := Lib.hid hln3
              clear hown' hin' hbw' hT hc1 hX hE hln' hln3
              unfold pp at HT
              generalize l0[j'] = x at *
              generalize hln : l0.length = L at *
              go_wp2_with (go_at_call 10; refine HT.out.mono ?_; rintro e5 w5 ⟨rfl, hd5⟩; have HO5 := Lib.hid (HO3.out.only hd5.2 (fun kk hk h => h.2 hk)); have HB5 := Lib.hid (HB3.out.trans (hd5.below HI3.out.1)); have HI5 := Lib.hid hd5.1; have c2' := (hd5.2.cell (p := ⟨b1, o1 + j', none⟩) (HO3.out.lt rfl) (fun h => h.2 rfl)).trans c2; clear hd5)
              go_roundw
              case rel => exact ⟨j' + 1, s3, by omega, by go_num, HL3.out, hl3, HB5.out, HO5.out, HI5.out⟩
              case measure => simp [intOf]; omega
            · have hln0 : s'.ln = [] := by rw [hln', List.drop_eq_nil_of_le (by omega)]
              have hT := take_in hin' (fun q hq => by rw [hls'.n]; exact hls'.ln q hq)
              have hX : takeX s' = 0 := by unfold takeX; rw [hln0]
              have hE : takeE s' = 19 := by unfold takeE; rw [hln0]
              rw [hX, hE] at hT
              have HI3 := Lib.hid hin'
              have HB3 := Lib.hid hbw'
              have HT := Lib.hid hT
              clear hown' hin' hbw' hT hX hE hln' hln0
              unfold pp at HT
              go_wp2_with (go_at_call 10; refine HT.out.mono ?_; rintro e5 w5 ⟨rfl, hd5⟩; have HB5 := Lib.hid (HB3.out.trans (hd5.below HI3.out.1)); clear hd5)
              go_ret
              exact ⟨rfl, HB5.out⟩

set_option maxHeartbeats 1000000 in
theorem lineLaw_any (n : Int) (A : Option Addr) (m c : Nat) (xs : List UInt8) (w : World) (hr : Rd w w.heap.size 1 A m (xs.map bV)) :
    Calls Try.prog 3 #[.int .i64 n, .slice A m c] w fun e w' => e = .returned (.bool true) ∧ Below w.heap.size w w' := by
  by_cases h : m ≤ 60
  · exact line_small n A m c xs w hr h
  · have hA : Hid (∀ w, Calls Try.prog 8 #[] w fun e w' => e = .returned (.bool true) ∧ Below w.heap.size w w') := awake_any
    have h1 : (60 : Int) < (m : Int) := by omega
    clear hr h
    go_enter Try.func3, Try.ntmps3
    go_wp2_with fail
    refine (hA.out _).mono ?_
    rintro e1 w1 ⟨rfl, hb1⟩
    go_wp2_with fail
    refine (hA.out _).mono ?_
    rintro e2 w2 ⟨rfl, hb2⟩
    go_wp2
    go_ret
    exact ⟨rfl, below_trans hb1 hb2⟩
end Go.Proofs.Ytmebpalfjcejoaa
