/-
  The contracts of the tree's functions Cancel and Below; no condition beyond those that each theorem states.
-/
import Derived.Test.YtddklpphcfgooaaTree3
namespace Go.Proofs.Ytddklpphcfgooaa
open Go.RowKit Go.Rb

set_option maxHeartbeats 2000000 in
theorem cancel_bad {S : Nat → Prop} {t : Nat} {s : TS} (i c : Int) (w : World) (hR : Rep w S t s) (hi : ¬ (thereB s i ∧ c ≠ 0)) :
    Calls Try.prog 9 #[pp t, .int .i64 i, .int .i64 c] w fun e w' => e = .returned (.tuple #[.int .i64 0, .int .i64 2]) ∧ w = w' := by
  obtain ⟨av, ks, h⟩ := hR
  have HC := Lib.hid (there_any i w h)
  clear h
  unfold pp at HC ⊢
  by_cases ht : thereB s i
  · rw [decide_eq_true ht] at HC
    obtain rfl : c = 0 := by
      by_cases h0 : c = 0
      · exact h0
      · exact absurd ⟨ht, h0⟩ hi
    clear hi ht
    go_enter Try.func9, Try.ntmps9
    go_wp2_with (go_at_call 20; refine HC.out.mono ?_; rintro e1 w1 ⟨rfl, rfl⟩)
    go_ret2
    exact ⟨rfl, rfl⟩
  · rw [decide_eq_false ht] at HC
    clear hi ht
    go_enter Try.func9, Try.ntmps9
    go_wp2_with (go_at_call 20; refine HC.out.mono ?_; rintro e1 w1 ⟨rfl, rfl⟩)
    go_ret2
    exact ⟨rfl, rfl⟩

/-- What Cancel leaves. -/
def CancelR (S : Nat → Prop) (t : Nat) (s : TS) (n : Nat) (c : Int) (w : World) (k : Nat) (w' : World) : Prop :=
  ∃ ca', k + ca'.count 0 = s.ca.count 0 ∧ Mk (Und s.up n) c s.ca ca' ∧ Only S w w' ∧ Rep w' S t (s.wca ca') ∧ Tr (s.wca ca')

set_option maxHeartbeats 2000000 in
theorem cancel_any {S : Nat → Prop} {t : Nat} {s : TS} (n : Nat) (c : Int) (w : World) (hR : Rep w S t s) (htr : Tr s) (hn : n < s.n) (hc : c ≠ 0) :
    Calls Try.prog 9 #[pp t, .int .i64 (n : Int), .int .i64 c] w fun e w' => ∃ k : Nat, e = .returned (.tuple #[.int .i64 (k : Int), .int .i64 0]) ∧ CancelR S t s n c w k w' := by
  obtain ⟨av, ks, h⟩ := hR
  have HC := Lib.hid (there_any (n : Int) w h)
  rw [decide_eq_true (show thereB s n from ⟨by omega, by omega⟩)] at HC
  obtain ⟨g, off, cap, rfl, -, -, -, -, sg, -⟩ := h.aform hn
  have hnn : s.n ≤ 256 := h.nn
  have HM := Lib.hid (mark_any htr.sh hc (fun i => by have := htr.kb i; omega) (s.up.length - n) n s.ca w (Nat.le_refl _) hn h (tr_czs htr hn))
  have HS : Hid (S g) := sg
  have HT := Lib.hid htr
  clear h sg htr
  have hcb : (c == 0) = false := by simpa using hc
  unfold pp at HC HM ⊢
  go_enter Try.func9, Try.ntmps9
  go_wp2_with (first
    | (go_at_call 20; refine HC.out.mono ?_; rintro e1 w1 ⟨rfl, rfl⟩)
    | (go_at_call 21; refine HM.out.mono ?_; rintro e1 w1 ⟨ca', k, rfl, hk, hm, ho, hr⟩; have HK := Lib.hid hk; have HM2 := Lib.hid hm; have HO := Lib.hid ho; have HR := Lib.hid hr; clear hk hm ho hr))
  go_ret2
  exact ⟨k, rfl, ca', HK.out, HM2.out, HO.out.mono (fun q _ hq => by rw [hq]; exact HS.out), ⟨_, _, HR.out⟩, tr_mk HT.out hc HM2.out⟩

open Classical in
/-- All below i. -/
noncomputable def belowO (s : TS) (i : Int) : List Nat := (List.range s.n).filter fun k => decide (0 ≤ i ∧ 0 < k ∧ Und s.up i.toNat (upN s.up k))
/-- The same, of the first k nodes. -/
noncomputable def belowU (s : TS) (i : Int) (k : Nat) : List Nat := open Classical in (List.range k).filter fun k => decide (0 ≤ i ∧ 0 < k ∧ Und s.up i.toNat (upN s.up k))
theorem belowU_step (s : TS) (i : Int) (k : Nat) : belowU s i (k + 1) = belowU s i k ++ (open Classical in if 0 ≤ i ∧ 0 < k ∧ Und s.up i.toNat (upN s.up k) then [k] else []) := by
  unfold belowU
  rw [List.range_succ, List.filter_append]
  congr 1
  by_cases h : 0 ≤ i ∧ 0 < k ∧ Und s.up i.toNat (upN s.up k)
  · simp [h]
  · rw [if_neg h]; simp [List.filter_cons, h]
theorem belowU_len (s : TS) (i : Int) (k : Nat) : (belowU s i k).length ≤ k := by
  unfold belowU
  exact Nat.le_trans (List.length_filter_le _ _) (by simp)

/-- Where the search up has come to. -/
def UpAt (s : TS) (i : Int) (k : Nat) (u : Int) : Prop :=
  (u = -1 ∧ ¬ (0 ≤ i ∧ 0 < k ∧ Und s.up i.toNat (upN s.up k))) ∨ ∃ m : Nat, u = (m : Int) ∧ m < s.n ∧ ((0 ≤ i ∧ 0 < k ∧ Und s.up i.toNat (upN s.up k)) ↔ 0 ≤ i ∧ Und s.up i.toNat m)
theorem parentO_at {s : TS} {k : Nat} (hk : k < s.n) : parentO s (k : Int) = s.up.getD k 0 := by
  unfold parentO
  rw [if_pos ⟨by omega, by omega⟩, Int.toNat_natCast]
theorem upAt_first {s : TS} (h : Sh s.up s.ki) (i : Int) {k : Nat} (hk : k < s.n) : UpAt s i k (parentO s (k : Int)) := by
  rw [parentO_at hk]
  rcases Nat.eq_zero_or_pos k with rfl | h0
  · exact .inl ⟨h.u0, fun hh => by omega⟩
  · obtain ⟨e, hl⟩ := h.uk k h0 hk
    exact .inr ⟨upN s.up k, e, Nat.lt_trans hl hk, by simp [h0]⟩
theorem upAt_next {s : TS} (h : Sh s.up s.ki) {i : Int} {k m : Nat} (hu : UpAt s i k (m : Int)) (hm : m < s.n) (hne : (m : Int) ≠ i) : UpAt s i k (parentO s (m : Int)) ∧ parentO s (m : Int) < (m : Int) := by
  rcases hu with ⟨e, _⟩ | ⟨m', e, hm', hiff⟩
  · omega
  · obtain rfl : m = m' := by omega
    rw [parentO_at hm]
    rcases Nat.eq_zero_or_pos m with rfl | h0
    · rw [h.u0]
      refine ⟨.inl ⟨rfl, fun hh => ?_⟩, by omega⟩
      obtain ⟨h1, h2⟩ := hiff.1 hh
      have := h2.le h
      omega
    · obtain ⟨e2, hl⟩ := h.uk m h0 hm
      rw [e2]
      refine ⟨.inr ⟨upN s.up m, rfl, Nat.lt_trans hl hm, hiff.trans ?_⟩, by omega⟩
      constructor
      · rintro ⟨h1, h2⟩
        rcases (sub_iff h hm).1 h2 with h3 | h3
        · omega
        · exact ⟨h1, h3.2⟩
      · rintro ⟨h1, h2⟩
        exact ⟨h1, .step h0 hm h2⟩
theorem upAt_end {s : TS} {i : Int} {k m : Nat} (hu : UpAt s i k (m : Int)) (he : (m : Int) = i) : 0 ≤ i ∧ 0 < k ∧ Und s.up i.toNat (upN s.up k) := by
  rcases hu with ⟨e, _⟩ | ⟨m', e, hm', hiff⟩
  · omega
  · obtain rfl : m = m' := by omega
    refine hiff.2 ⟨by omega, ?_⟩
    have : i.toNat = m := by omega
    rw [this]; exact .here
theorem upAt_none {s : TS} {i : Int} {k : Nat} {u : Int} (hu : UpAt s i k u) (he : u < 0) : ¬ (0 ≤ i ∧ 0 < k ∧ Und s.up i.toNat (upN s.up k)) := by
  rcases hu with ⟨_, h⟩ | ⟨m', e, hm', hiff⟩
  · exact h
  · omega
theorem upAt_cases {s : TS} {i : Int} {k : Nat} {u : Int} (hu : UpAt s i k u) : u = -1 ∨ ∃ m : Nat, u = (m : Int) ∧ m < s.n := by
  rcases hu with ⟨h, _⟩ | ⟨m, e, hm, _⟩
  · exact .inl h
  · exact .inr ⟨m, e, hm⟩

set_option maxHeartbeats 4000000 in
theorem below_any {S : Nat → Prop} {t : Nat} {s : TS} (i : Int) (w : World) (hR : Rep w S t s) (htr : Tr s) :
    Calls Try.prog 13 #[pp t, .int .i64 i] w fun e w' => ∃ v, e = .returned v ∧ Below w.heap.size w w' ∧ Own w' 3 1 v (belowO s i).length ((belowO s i).map nV) ∧ ∀ q, v.ownBlock = some q → w.heap.size ≤ q := by
  obtain ⟨i0, hi0, hz0, hz1, hz2⟩ := info_parts info3
  obtain ⟨av, ks, h⟩ := hR
  have hnn : s.n ≤ 256 := h.nn
  have HRW : Hid (∀ W, Below w.heap.size w W → Rep W S t s) := fun W hW => ⟨av, ks, h.frame (Only.of_below hW) fun k hk => by have := h.lt k hk; omega⟩
  have c0 := h.c0
  obtain ⟨A, cap, rfl, -, -⟩ := h.ao.len_
  have HS := Lib.hid htr.sh
  have HE : Hid (belowO s i = belowU s i s.n) := rfl
  clear h htr
  generalize hnn2 : s.n = n at *
  unfold pp
  go_enter Try.func13, Try.ntmps13
  go_wp2
  go_loopw [5, 13] (fun v k wr => ∃ j : Nat, j ≤ n ∧ k = .int .i64 j ∧ Below w.heap.size w wr ∧ Own wr 3 1 v (belowU s i j).length ((belowU s i j).map nV) ∧ ∀ q, v.ownBlock = some q → w.heap.size ≤ q) (fun _ k _ => n - (intOf k).toNat)
  case atStart => exact ⟨0, by omega, rfl, Below.refl _ _, Own.nil_ _ _ _, fun q hq => by simp [Value.ownBlock] at hq⟩
  case round =>
    obtain ⟨j, hj, rfl, hbw, hown, hob⟩ := hrel
    by_cases hlt : j < n
    · have i5 : (j : Int) < (n : Int) := by omega
      have HP : Hid (∀ u : Int, Calls Try.prog 19 #[.pointer (some ⟨t, 0, none⟩), .int .i64 u] wr fun e w' => e = .returned (.int .i64 (parentO s u)) ∧ wr = w') := fun u => parent_any u wr (HRW.out wr hbw)
      have HB := Lib.hid hbw; have HO := Lib.hid hown; have HOB := Lib.hid hob
      have hlen := belowU_len s i j
      obtain ⟨A2, cap2, rfl, -, -⟩ := hown.len_
      have HUP := Lib.hid (upAt_first HS.out i (k := j) (by rw [hnn2]; exact hlt))
      have hst := belowU_step s i j
      have HST := Lib.hid hst
      clear hbw hown hob hst
      generalize hu0 : parentO s (j : Int) = u0 at *
      generalize hln : (belowU s i j).length = L at *
      have HLN := Lib.hid hln
      clear hln
      go_wp2_with (go_at_call 19; refine (HP.out _).mono ?_; rintro e1 w1 ⟨rfl, rfl⟩; try rw [hu0])
      go_loopw [7] (fun u wy => ∃ z : Int, u = .int .i64 z ∧ UpAt s i j z ∧ wr = wy) (fun u _ => ((intOf u) + 1).toNat)
      case atStart => exact ⟨u0, rfl, HUP.out, rfl⟩
      case round =>
        obtain ⟨z, rfl, hup, rfl⟩ := hrel
        rcases upAt_cases hup with rfl | ⟨m, rfl, hm⟩
        · have hno := upAt_none hup (by omega)
          have hst := HST.out
          rw [if_neg hno, List.append_nil] at hst
          have HST2 := Lib.hid hst
          clear hst hno hup
          go_wp2
          go_roundw
          case rel => exact ⟨j + 1, by omega, by go_num, HB.out, by rw [HST2.out, HLN.out]; exact HO.out, HOB.out⟩
          case measure => simp [intOf]; omega
        · by_cases hmi : (m : Int) = i
          · have hyes := upAt_end hup hmi
            have hst := HST.out
            rw [if_pos hyes] at hst
            have HST2 := Lib.hid hst
            have hni : ((m : Int) != i) = false := by simp [hmi]
            clear hst hyes hup
            go_wp2_with (at_builtin; refine wpList_append_mine _ rfl (.tmp 31) (.tmp 33) _ rfl 3 i0 _ 1 8 Try.underlying33 hi0 hz0 hz1 hz2 rfl (by omega) (.slice A2 L cap2) L ((belowU s i j).map nV) rfl (by exact HO.out.alloc _) _ 1 1 [_] rfl rfl (by exact news_push rfl rfl) (by simp [Value.oneCell']) (by omega) (by simp only [maxLen]; omega) (by omega) _ rfl ?_; intro g2 o2 c2 w2 hown2 hgrow2 hat2; have HO2 := Lib.hid hown2; have HG2 := Lib.hid hgrow2; have HA2 := Lib.hid hat2; clear hown2 hgrow2 hat2)
            go_roundw
            case rel =>
              refine ⟨j + 1, by omega, by go_num, Below.grown (HB.out.alloc HB.out.size _) HG2.out (by simp; have := HB.out.size; omega) HOB.out, ?_, ?_⟩
              · rw [HST2.out, List.map_append, List.length_append, HLN.out]
                exact HO2.out
              · intro q hq
                have : g2 = q := by simpa [Value.ownBlock] using hq
                subst this
                have hs := HB.out.size
                rcases HA2.out with h | h
                · exact HOB.out _ h
                · simp at h; omega
            case measure => simp [intOf]; omega
          · obtain ⟨hnx, hlt2⟩ := upAt_next HS.out hup hm hmi
            have HNX := Lib.hid hnx
            have hni : ((m : Int) != i) = true := by simpa using hmi
            clear hnx hup
            generalize hz : parentO s (m : Int) = z at *
            go_wp2_with (go_at_call 19; refine (HP.out _).mono ?_; rintro e1 w1 ⟨rfl, rfl⟩; try rw [hz])
            go_roundw
            case rel => exact ⟨z, by go_num, HNX.out, by first | rfl | trivial⟩
            case measure =>
              have := upAt_cases HNX.out
              simp [intOf]; omega
    · obtain rfl : j = n := by omega
      have HB := Lib.hid hbw; have HO := Lib.hid hown; have HOB := Lib.hid hob
      clear hbw hown hob
      go_wp2
      go_ret
      exact ⟨_, rfl, HB.out, by rw [HE.out]; exact HO.out, HOB.out⟩
end Go.Proofs.Ytddklpphcfgooaa
