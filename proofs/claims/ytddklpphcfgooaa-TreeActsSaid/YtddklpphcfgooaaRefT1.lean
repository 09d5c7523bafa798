/-
  The document's tree: how it lies in memory, and the contracts of its functions Is, Under, Below; no condition beyond those that each theorem states.
-/
import Derived.Test.YtddklpphcfgooaaActsT
namespace Go.Proofs.Ytddklpphcfgooaa
open Go.RowKit Go.Rb

/-- The document's tree at r: its lists at uv and cv; all in blocks of S. -/
structure RefA (w : World) (S : Nat → Prop) (r : Nat) (uv cv : Value) (up ca : List Int) : Prop where
  tb : Blk w r 45 #[uv, cv]
  uo : Own w 3 1 uv up.length (up.map iV)
  co : Own w 3 1 cv ca.length (ca.map iV)
  ne : ∀ k, uv.ownBlock = some k → cv.ownBlock ≠ some k
  st : S r
  su : ∀ k, uv.ownBlock = some k → S k
  sc : ∀ k, cv.ownBlock = some k → S k
  lt : ∀ k, S k → k < w.heap.size
def RefT (w : World) (S : Nat → Prop) (r : Nat) (s : TS) : Prop := ∃ uv cv, RefA w S r uv cv s.up s.ca

section
variable {w w' : World} {S S' T : Nat → Prop} {r : Nat} {uv cv : Value} {up ca : List Int} {s : TS}
theorem RefA.frame (h : RefA w S r uv cv up ca) (hb : Only T w w') (hd : ∀ k, S k → ¬ T k) : RefA w' S r uv cv up ca :=
  ⟨h.tb.only hb (hd _ h.st), h.uo.only hb fun k hk => hd _ (h.su k hk), h.co.only hb fun k hk => hd _ (h.sc k hk), h.ne, h.st, h.su, h.sc, fun k hk => Nat.lt_of_lt_of_le (h.lt k hk) hb.size⟩
theorem RefA.c0 (h : RefA w S r uv cv up ca) : w.cell? ⟨r, 0, none⟩ = some uv := by rw [h.tb.cell]; rfl
theorem RefA.c1 (h : RefA w S r uv cv up ca) : w.cell? ⟨r, 1, none⟩ = some cv := by rw [h.tb.cell]; rfl
theorem RefA.uat (h : RefA w S r uv cv up ca) {i : Nat} (hi : i < up.length) : ∃ g off cap, uv = .slice (some ⟨g, off, none⟩) up.length cap ∧ w.cell? ⟨g, off + i, none⟩ = some (.int .i64 (up.getD i 0)) := by
  obtain ⟨g, off, cap, hv, _, _, _, hc, _⟩ := h.uo.form (by omega)
  exact ⟨g, off, cap, hv, by rw [hc i (by omega), List.getElem?_map, getD_get (d := 0) hi]; rfl⟩
theorem RefA.cat (h : RefA w S r uv cv up ca) {i : Nat} (hi : i < ca.length) : ∃ g off cap, cv = .slice (some ⟨g, off, none⟩) ca.length cap ∧ w.cell? ⟨g, off + i, none⟩ = some (.int .i64 (ca.getD i 0)) ∧ (∀ j, w.frozen? ⟨g, j, none⟩ = false) ∧ S g := by
  obtain ⟨g, off, cap, hv, _, _, _, hc, hf⟩ := h.co.form (by omega)
  exact ⟨g, off, cap, hv, by rw [hc i (by omega), List.getElem?_map, getD_get (d := 0) hi]; rfl, hf, h.sc g (by rw [hv]; rfl)⟩
theorem RefA.setCause {g off cap : Nat} (h : RefA w S r uv (.slice (some ⟨g, off, none⟩) ca.length cap) up ca) (i : Nat) (hi : i < ca.length) (c : Int) :
    RefA (w.setCell ⟨g, off + i, none⟩ (.int .i64 c)) S r uv (.slice (some ⟨g, off, none⟩) ca.length cap) up (ca.set i c) := by
  have hg : g ≠ r := fun e => own_ne_blk h.co h.tb (by decide) (by rw [← e]; rfl)
  refine ⟨h.tb.far (p := ⟨g, off + i, none⟩) (Ne.symm hg) _, h.uo.setCell (p := ⟨g, off + i, none⟩) (fun e => h.ne g e rfl) _, ?_, h.ne, h.st, h.su, h.sc, fun k hk => by simpa [World.setCell] using h.lt k hk⟩
  have := h.co.store i (by omega) (.int .i64 c)
  rw [List.length_set, List.map_set]
  exact this
end

/-- Strictly below. -/
def SB (s : TS) (i : Int) (k : Nat) : Prop := 0 ≤ i ∧ 0 < k ∧ Und s.up i.toNat (upN s.up k)
noncomputable instance (s : TS) (i : Int) (k : Nat) : Decidable (SB s i k) := Classical.propDecidable _
theorem belowU_stepS (s : TS) (i : Int) (k : Nat) : belowU s i (k + 1) = belowU s i k ++ (if SB s i k then [k] else []) := by
  rw [belowU_step]
  by_cases h : SB s i k
  · rw [if_pos h, if_pos (show 0 ≤ i ∧ 0 < k ∧ Und s.up i.toNat (upN s.up k) from h)]
  · rw [if_neg h, if_neg (show ¬ (0 ≤ i ∧ 0 < k ∧ Und s.up i.toNat (upN s.up k)) from h)]
theorem sb_zero (s : TS) (i : Int) : ¬ SB s i 0 := fun h => absurd h.2.1 (by omega)
theorem sb_yes {s : TS} {i : Int} {m : Nat} (h0 : 0 < m) (he : (upN s.up m : Int) = i) : SB s i m := by
  refine ⟨by omega, h0, ?_⟩
  have : i.toNat = upN s.up m := by omega
  rw [this]; exact .here
theorem sb_next {s : TS} (h : Sh s.up s.ki) {i : Int} {m : Nat} (h0 : 0 < m) (hm : m < s.n) (hne : (upN s.up m : Int) ≠ i) : SB s i m ↔ SB s i (upN s.up m) := by
  have hl := (h.uk m h0 hm).2
  have hm' : m < s.up.length := hm
  constructor
  · rintro ⟨h1, h2, h3⟩
    rcases (sub_iff h (show upN s.up m < s.up.length by omega)).1 h3 with h4 | h4
    · omega
    · exact ⟨h1, h4.1, h4.2⟩
  · rintro ⟨h1, h2, h3⟩
    exact ⟨h1, h0, .step h2 (by omega) h3⟩
theorem sb_there {s : TS} (h : Sh s.up s.ki) {i : Int} {m : Nat} (hm : m < s.n) (hs : SB s i m) : thereB s i := by
  obtain ⟨h1, h2, h3⟩ := hs
  have := (h.uk m h2 hm).2
  have := h3.le h
  exact ⟨h1, by omega⟩
theorem sb_und {s : TS} (h : Sh s.up s.ki) {n m : Nat} (hm : m < s.n) (hne : m ≠ n) : SB s (n : Int) m ↔ Und s.up n m := by
  rw [sub_iff h hm]
  constructor
  · rintro ⟨_, h2, h3⟩; exact .inr ⟨h2, h3⟩
  · rintro (h2 | ⟨h2, h3⟩)
    · exact absurd h2 hne
    · exact ⟨by omega, h2, h3⟩

set_option maxHeartbeats 1000000 in
theorem rIs_any {S : Nat → Prop} {r : Nat} {s : TS} (i : Int) (w : World) (hR : RefT w S r s) :
    Calls Try.prog 22 #[pp r, .int .i64 i] w fun e w' => e = .returned (.bool (decide (thereB s i))) ∧ w = w' := by
  obtain ⟨uv, cv, h⟩ := hR
  have c0 := h.c0
  obtain ⟨A, cap, rfl, -, -⟩ := h.uo.len_
  have e : decide (thereB s i) = (decide (0 ≤ i) && decide (i < (s.up.length : Int))) := by
    unfold thereB TS.n
    by_cases h1 : 0 ≤ i <;> by_cases h2 : i < (s.up.length : Int) <;> simp [h1, h2]
  rw [e]
  unfold pp
  clear h e
  generalize s.up.length = n at *
  by_cases h1 : 0 ≤ i
  · have e : decide (0 ≤ i) = true := by simp [h1]
    rw [e, Bool.true_and]
    clear e
    go_enter Try.func22, Try.ntmps22
    go_wp2
    go_ret
    exact ⟨by simp, rfl⟩
  · have i1 : decide (0 ≤ i) = false := by simp; omega
    rw [i1, Bool.false_and]
    go_enter Try.func22, Try.ntmps22
    go_wp2
    go_ret
    exact ⟨rfl, rfl⟩

set_option maxHeartbeats 2000000 in
theorem rUnder_any {S : Nat → Prop} {r : Nat} {s : TS} (k : Nat) (i : Int) (w : World) (hR : RefT w S r s) (hsh : Sh s.up s.ki) (hk : k < s.n) :
    Calls Try.prog 23 #[pp r, .int .i64 (k : Int), .int .i64 i] w fun e w' => e = .returned (.bool (decide (SB s i k))) ∧ w = w' := by
  obtain ⟨uv, cv, h⟩ := hR
  have c0 := h.c0
  have HS := Lib.hid hsh
  have HU : Hid (∀ m, m < s.n → ∃ g off cap, uv = .slice (some ⟨g, off, none⟩) s.n cap ∧ w.cell? ⟨g, off + m, none⟩ = some (.int .i64 (s.up.getD m 0))) := fun m hm => h.uat hm
  clear h hsh
  unfold pp
  go_enter Try.func23, Try.ntmps23
  go_wp2
  go_loopw [1] (fun v wr => ∃ m : Nat, v = .int .i64 m ∧ m < s.n ∧ (SB s i k ↔ SB s i m) ∧ w = wr) (fun v _ => (intOf v).toNat)
  case atStart => exact ⟨k, rfl, hk, Iff.rfl, rfl⟩
  case round =>
    obtain ⟨m, rfl, hm, hiff, rfl⟩ := hrel
    rcases Nat.eq_zero_or_pos m with rfl | h0
    · have HF : Hid (¬ SB s i k) := fun hh => sb_zero s i (hiff.1 hh)
      clear hiff
      go_wp2
      go_ret
      exact ⟨by rw [decide_eq_false HF.out]; rfl, rfl⟩
    · obtain ⟨g, off, cap, rfl, cu⟩ := HU.out m hm
      obtain ⟨e1, hl⟩ := HS.out.uk m h0 hm
      rw [e1] at cu
      have i1 : (0 : Int) < (m : Int) := by omega
      have i2 : (m : Int) < (s.n : Int) := by omega
      by_cases hpi : (upN s.up m : Int) = i
      · have HT : Hid (SB s i k) := hiff.2 (sb_yes h0 hpi)
        have hpb : ((upN s.up m : Int) == i) = true := by simpa using hpi
        clear hiff e1 hpi
        generalize upN s.up m = p at *
        generalize s.n = n at *
        go_wp2
        go_ret
        exact ⟨by rw [decide_eq_true HT.out]; rfl, rfl⟩
      · have HN : Hid (SB s i k ↔ SB s i (upN s.up m)) := hiff.trans (sb_next HS.out h0 hm hpi)
        have hpn : upN s.up m < s.n := by omega
        have hpb : ((upN s.up m : Int) == i) = false := by simpa using hpi
        clear hiff e1
        generalize hp : upN s.up m = p at *
        generalize hn : s.n = n at *
        clear hp
        go_wp2
        go_roundw
        case rel => exact ⟨p, rfl, hpn, HN.out, by first | rfl | trivial⟩
        case measure => simp [intOf]; omega

set_option maxHeartbeats 4000000 in
theorem rBelow_any {S : Nat → Prop} {r : Nat} {s : TS} (i : Int) (w : World) (hR : RefT w S r s) (htr : Tr s) (hn : s.n ≤ 256) :
    Calls Try.prog 18 #[pp r, .int .i64 i] w fun e w' => ∃ v, e = .returned v ∧ Below w.heap.size w w' ∧ Own w' 3 1 v (belowO s i).length ((belowO s i).map nV) ∧ ∀ q, v.ownBlock = some q → w.heap.size ≤ q := by
  obtain ⟨i0, hi0, hz0, hz1, hz2⟩ := info_parts info3
  have HRW : Hid (∀ W, Below w.heap.size w W → RefT W S r s) := fun W hW => by
    obtain ⟨uv, cv, h⟩ := hR
    exact ⟨uv, cv, h.frame (Only.of_below hW) fun k hk => by have := h.lt k hk; omega⟩
  have HC0 : Hid (∃ A c, ∀ W, Below w.heap.size w W → W.cell? ⟨r, 0, none⟩ = some (.slice A s.n c)) := by
    obtain ⟨uv, cv, h⟩ := hR
    obtain ⟨A, c, rfl, -, -⟩ := h.uo.len_
    exact ⟨A, c, fun W hW => (hW.cell (p := ⟨r, 0, none⟩) (h.lt r h.st)).trans h.c0⟩
  have HTR := Lib.hid htr
  have HE : Hid (belowO s i = belowU s i s.n) := rfl
  clear hR htr
  obtain ⟨A, c, hc0⟩ := HC0.out
  have HC := Lib.hid hc0
  clear hc0 HC0
  generalize hnn2 : s.n = n at *
  unfold pp
  go_enter Try.func18, Try.ntmps18
  go_wp2
  go_loopw [5, 6] (fun v k wr => ∃ j : Nat, j ≤ n ∧ k = .int .i64 j ∧ Below w.heap.size w wr ∧ Own wr 3 1 v (belowU s i j).length ((belowU s i j).map nV) ∧ ∀ q, v.ownBlock = some q → w.heap.size ≤ q) (fun _ k _ => n - (intOf k).toNat)
  case atStart => exact ⟨0, by omega, rfl, Below.refl _ _, Own.nil_ _ _ _, fun q hq => by simp [Value.ownBlock] at hq⟩
  case round =>
    obtain ⟨j, hj, rfl, hbw, hown, hob⟩ := hrel
    have c0 := HC.out wr hbw
    by_cases hlt : j < n
    · have i5 : (j : Int) < (n : Int) := by omega
      have hIs := rIs_any i wr (HRW.out wr hbw)
      have hUn := rUnder_any j i wr (HRW.out wr hbw) HTR.out.sh (by rw [hnn2]; exact hlt)
      have hst := belowU_stepS s i j
      have HB := Lib.hid hbw; have HO := Lib.hid hown; have HOB := Lib.hid hob
      have hlen := belowU_len s i j
      obtain ⟨A2, cap2, rfl, -, -⟩ := hown.len_
      unfold pp at hIs hUn
      by_cases hth : thereB s i
      · rw [decide_eq_true hth] at hIs
        by_cases hsb : SB s i j
        · rw [decide_eq_true hsb] at hUn
          rw [if_pos hsb] at hst
          have HST := Lib.hid hst; have HIs := Lib.hid hIs; have HUn := Lib.hid hUn
          clear hbw hown hob hst hIs hUn hsb hth
          generalize hln : (belowU s i j).length = L at *
          have HLN := Lib.hid hln
          clear hln
          go_wp2_with (first
            | (go_at_call 22; refine HIs.out.mono ?_; rintro e1 w1 ⟨rfl, rfl⟩)
            | (go_at_call 23; refine HUn.out.mono ?_; rintro e1 w1 ⟨rfl, rfl⟩)
            | (at_builtin; refine wpList_append_mine _ rfl (.tmp 25) (.tmp 27) _ rfl 3 i0 _ 1 8 Try.underlying33 hi0 hz0 hz1 hz2 rfl (by omega) (.slice A2 L cap2) L ((belowU s i j).map nV) rfl (by exact HO.out.alloc _) _ 1 1 [_] rfl rfl (by exact news_push rfl rfl) (by simp [Value.oneCell']) (by omega) (by simp only [maxLen]; omega) (by omega) _ rfl ?_; intro g2 o2 c2 w2 hown2 hgrow2 hat2; have HO2 := Lib.hid hown2; have HG2 := Lib.hid hgrow2; have HA2 := Lib.hid hat2; clear hown2 hgrow2 hat2))
          go_roundw
          case rel =>
            refine ⟨j + 1, by omega, by go_num, Below.grown (HB.out.alloc HB.out.size _) HG2.out (by simp; have := HB.out.size; omega) HOB.out, ?_, ?_⟩
            · rw [HST.out, List.map_append, List.length_append, HLN.out]
              exact HO2.out
            · intro q hq
              have : g2 = q := by simpa [Value.ownBlock] using hq
              subst this
              have hs := HB.out.size
              rcases HA2.out with h | h
              · exact HOB.out _ h
              · simp at h; omega
          case measure => simp [intOf]; omega
        · rw [decide_eq_false hsb] at hUn
          rw [if_neg hsb, List.append_nil] at hst
          have HST := Lib.hid hst; have HIs := Lib.hid hIs; have HUn := Lib.hid hUn
          clear hbw hown hob hst hIs hUn hsb hth
          go_wp2_with (first
            | (go_at_call 22; refine HIs.out.mono ?_; rintro e1 w1 ⟨rfl, rfl⟩)
            | (go_at_call 23; refine HUn.out.mono ?_; rintro e1 w1 ⟨rfl, rfl⟩))
          go_roundw
          case rel => exact ⟨j + 1, by omega, by go_num, HB.out, by rw [HST.out]; exact HO.out, HOB.out⟩
          case measure => simp [intOf]; omega
      · rw [decide_eq_false hth] at hIs
        rw [if_neg (fun hsb => hth (sb_there HTR.out.sh (by rw [hnn2]; exact hlt) hsb)), List.append_nil] at hst
        have HST := Lib.hid hst; have HIs := Lib.hid hIs
        clear hbw hown hob hst hIs hUn hth
        go_wp2_with (go_at_call 22; refine HIs.out.mono ?_; rintro e1 w1 ⟨rfl, rfl⟩)
        go_roundw
        case rel => exact ⟨j + 1, by omega, by go_num, HB.out, by rw [HST.out]; exact HO.out, HOB.out⟩
        case measure => simp [intOf]; omega
    · obtain rfl : j = n := by omega
      have HB := Lib.hid hbw; have HO := Lib.hid hown; have HOB := Lib.hid hob
      clear hbw hown hob
      go_wp2
      go_ret
      exact ⟨_, rfl, HB.out, by rw [HE.out]; exact HO.out, HOB.out⟩
end Go.Proofs.Ytddklpphcfgooaa
