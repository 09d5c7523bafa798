/-
  The contract of prog.Compile, given node's; no condition beyond those that each theorem states.
-/
import Derived.Test.YtgfienopijlnkaaNode
namespace Go.Proofs.Ytgfienopijlnkaa
open Go.RowKit Go.Rb
attribute [local irreducible] Go.wpQuiet

/-- A program in a slice of its own. -/
def ProgO (w : World) (v : Value) (ps : List Ins) : Prop := ∃ svs : List Value, svs.length = ps.length ∧ Own w 37 4 v ps.length (insRow ps svs) ∧ ∀ (i : Nat) (t : Ins), ps[i]? = some t → ∃ sv, svs[i]? = some sv ∧ SetV w sv t.set
theorem ProgO.under {w w' : World} {v : Value} {ps : List Ins} (h : ProgO w v ps) (hb : Below w.heap.size w w') : ProgO w' v ps := by
  obtain ⟨svs, h1, h2, h3⟩ := h
  refine ⟨svs, h1, h2.below hb fun k hk => h2.lt hk, fun i t hi => ?_⟩
  obtain ⟨sv, e, hs⟩ := h3 i t hi
  exact ⟨sv, e, hs.below hb⟩
/-- What Compile answers. -/
def RetComp (w : World) (n : Nd) (e : Ending) (w' : World) : Prop := Below w.heap.size w w' ∧ ((2000 ≤ lenC n ∧ e = .returned (.tuple #[.slice none 0 0, .int .i64 16])) ∨
  (lenC n < 2000 ∧ ∃ v, e = .returned (.tuple #[v, .int .i64 0]) ∧ ProgO w' v (nodeP n [] ++ [⟨0, [], 0, 0⟩]) ∧ ∀ k, v.ownBlock = some k → w.heap.size ≤ k))
theorem prog_done {m g o c : Nat} {w w5 : World} {ps : List Ins} {svs : List Value} {sl : Value} (hbk : Blk w m 50 #[sl]) (h3 : svs.length = ps.length) (h4 : Own w 37 4 sl ps.length (insRow ps svs)) (h5 : ∀ (i : Nat) (t : Ins), ps[i]? = some t → ∃ sv, svs[i]? = some sv ∧ SetV w sv t.set)
    (hg : (w.alloc (.cells #[.int .i64 0, .slice none 0 0, .int .i64 0, .int .i64 0] 37)).grownBy w5 sl.ownBlock) (hO : Own w5 37 4 (.slice (some ⟨g, o, none⟩) (ps.length + 1) c) (ps.length + 1) (insRow ps svs ++ [.int .i64 0, .slice none 0 0, .int .i64 0, .int .i64 0])) :
    Blk w5 m 50 #[sl] ∧ ∀ u, ProgO (w5.setCell ⟨m, 0, none⟩ u) (.slice (some ⟨g, o, none⟩) (ps.length + 1) c) (ps ++ [⟨0, [], 0, 0⟩]) := by
  have hbk5 : Blk w5 m 50 #[sl] := (hbk.alloc _).grown hg (fun e => own_ne_blk_ h4 hbk (by decide) e.symm)
  refine ⟨hbk5, fun u => ⟨svs ++ [.slice none 0 0], by simp [h3], ?_, fun i t hi => ?_⟩⟩
  · rw [insRow_snoc _ _ h3, List.length_append]
    exact hO.setCell (p := ⟨m, 0, none⟩) (fun e => own_ne_blk_ hO hbk5 (by decide) e) _
  · have key : ∀ (sv : Value) (q : List (Int × Int)), SetV w sv q → SetV (w5.setCell ⟨m, 0, none⟩ u) sv q := fun sv q h => by
      have h1 : SetV w5 sv q := Own.grown (h.below (below_al (Below.refl _ _) (.cells #[.int .i64 0, .slice none 0 0, .int .i64 0, .int .i64 0] 37))) hg (fun k hk e => own_ne_ h h4 (by decide) hk e)
      exact Own.setCell (p := ⟨m, 0, none⟩) h1 (own_ne_blk_ h1 hbk5 (by decide)) _
    by_cases hin : i < ps.length
    · rw [List.getElem?_append_left hin] at hi
      obtain ⟨sv, e1, hs1⟩ := h5 i t hi
      exact ⟨sv, by rw [List.getElem?_append_left (by omega)]; exact e1, key _ _ hs1⟩
    · have hi2 := (List.getElem?_eq_some_iff.1 hi).1
      obtain rfl : i = ps.length := by simp at hi2; omega
      rw [List.getElem?_append_right (Nat.le_refl _)] at hi
      obtain rfl : (⟨0, [], 0, 0⟩ : Ins) = t := by simpa using hi
      exact ⟨_, by rw [List.getElem?_append_right (by omega), h3]; simp, key _ _ (SetV.nil_ w)⟩
set_option maxRecDepth 20000 in
set_option maxHeartbeats 4000000 in
theorem comp_any {n : Nd} (hok : OkN n) (hN : NodeC n) {w : World} {S : Nat → Prop} {v : Value} (hv : NdV w S v n) (hlen : lenC n < 2000 → (nodeP n []).length ≤ 4000) : Calls Try.prog 8 #[v] w (RetComp w n) := by
  obtain ⟨i0, hi0, hz0, hz1, hz2⟩ := info_parts infoI
  obtain ⟨x0, A1, n1, m1, x2, x3, A4, n4, m4, rfl⟩ := hv.parts
  have hbd := lenC_bd hok
  have HLEN := Lib.hid (fun W (hW : Below w.heap.size w W) => len_any hok W S _ (hv.under hW))
  have HV := Lib.hid hv
  have HN := Lib.hid hN
  obtain ⟨L, hL⟩ : ∃ L, lenC n = L := ⟨_, rfl⟩
  have HL := Lib.hid hL
  rw [hL] at hbd hlen
  obtain ⟨hbd1, hbd2⟩ := hbd
  have HLE := Lib.hid hlen
  have HCV : Hid (∀ W, Below w.heap.size w W → Calls Try.prog 9 #[.agg #[.int .i64 x0, .slice A1 n1 m1, .int .i64 x2, .int .i64 x3, .slice A4 n4 m4]] W fun e w' => e = .returned (.int .i64 L) ∧ Below W.heap.size W w') := fun W hW => by
    have := HLEN.out W hW
    rw [hL] at this
    exact this
  clear hok hN hv hL hlen HLEN
  unfold ndV
  go_enter Try.func8, Try.ntmps8
  go_wp2_with fail
  refine (HCV.out _ (below_al (Below.refl _ _) _)).mono ?_
  rintro e1 w1 ⟨rfl, hb1⟩
  have HB1 := Lib.hid (below_trans (below_al (Below.refl w.heap.size w) _) hb1)
  have hs1 := HB1.out.size
  have hbx : Blk w1 w.heap.size 28 #[.int .i64 x0, .slice A1 n1 m1, .int .i64 x2, .int .i64 x3, .slice A4 n4 m4] := (Blk.new _ _ _).below hb1 (by simp)
  have HBX := Lib.hid hbx
  have hlt1 := hbx.lt
  clear hb1 HCV hbx
  by_cases hbig : 2000 ≤ L
  · go_wp2_with fail
    go_returns
    exact ⟨HB1.out, .inl ⟨by rw [HL.out]; exact hbig, rfl⟩⟩
  · have hl4 := HLE.out (by omega)
    have y0 := HBX.out.cell 0
    have y1 := HBX.out.cell 1
    have y2 := HBX.out.cell 2
    have y3 := HBX.out.cell 3
    have y4 := HBX.out.cell 4
    simp only [List.getElem?_toArray, List.getElem?_cons_succ, List.getElem?_cons_zero] at y0 y1 y2 y3 y4
    have hmk : Mk w1.heap.size (w1.alloc (.cells #[.slice none 0 0] 50)) w1.heap.size [] := ⟨Nat.le_refl _, .slice none 0 0, [], Blk.new _ _ _, by simp [Value.ownBlock], rfl, Own.nil_ _ _ _, fun i t h => by simp at h⟩
    have HC := Lib.hid (HN.out w1.heap.size w1.heap.size (w1.alloc (.cells #[.slice none 0 0] 50)) S (.agg #[.int .i64 x0, .slice A1 n1 m1, .int .i64 x2, .int .i64 x3, .slice A4 n4 m4]) [] hmk (by simp) ((HV.out.under HB1.out).under (below_al (Below.refl _ _) _)) hl4)
    obtain ⟨PS, hPS⟩ : ∃ PS, nodeP n [] = PS := ⟨_, rfl⟩
    rw [hPS] at HC hl4
    have HPS := Lib.hid hPS
    clear hmk hPS
    go_wp2_with fail
    refine HC.out.mono ?_
    rintro e2 w3 ⟨rfl, hm, hf⟩
    obtain ⟨h0, sl, svs, h1, h2, h3, h4, h5⟩ := hm
    obtain ⟨Ap, cp, rfl, -, -⟩ := h4.len_
    have HB3 := Lib.hid (HB1.out.trans ((below_al (Below.refl w1.heap.size w1) (.cells #[.slice none 0 0] 50)).trans hf.below |>.mono hs1))
    have hs3 : w1.heap.size ≤ w3.heap.size := Nat.le_trans (by simp) hf.size
    have q0 := h1.cell 0
    have q1 := h1.frozen 0
    have hml := h1.lt
    simp only [List.getElem?_toArray, List.getElem?_cons_zero] at q0
    have HO := Lib.hid h4
    have H2 := Lib.hid h2
    have HD := Lib.hid (fun (w5 : World) (g o c : Nat) => prog_done (g := g) (o := o) (c := c) (w5 := w5) h1 h3 h4 h5)
    clear h0 h1 h2 h3 h4 h5 hf HC y0 y1 y2 y3 y4
    go_wp2_with (at_builtin; refine wpList_append_mine _ rfl (.tmp 17) (.tmp 19) _ rfl 37 i0 _ 4 48 Try.underlying22 hi0 hz0 hz1 hz2 rfl (by omega) (.slice Ap PS.length cp) PS.length (insRow PS svs) rfl (by exact HO.out.alloc _) _ 1 1 [.int .i64 0, .slice none 0 0, .int .i64 0, .int .i64 0] rfl rfl (by exact news_pushs rfl rfl) (by simp [Value.oneCell']) (by omega) (by simp only [maxLen]; omega) (by omega) _ rfl ?_; intro g5 o5 c5 w5 hown5 hgrow5 hat5; have hdd := HD.out w5 g5 o5 c5 hgrow5 hown5; obtain ⟨hbk5, hpr5⟩ := hdd; have HP5 := Lib.hid hpr5; have HB5 := Lib.hid (Below.grown (HB3.out.alloc HB3.out.size (.cells #[.int .i64 0, .slice none 0 0, .int .i64 0, .int .i64 0] 37)) hgrow5 (by simp; omega) (fun k hk => Nat.le_trans hs1 (H2.out k hk))); have HK5 := Lib.hid (ns_far (o := o5) (n := PS.length + 1) (c := c5) (B := w.heap.size) (fun k hk => Nat.le_trans hs1 (H2.out k hk)) hat5 (by simp; omega)); have t0 := hbk5.cell 0; have t1 := hbk5.frozen 0; have hm5 := hbk5.lt; simp only [List.getElem?_toArray, List.getElem?_cons_zero] at t0; clear hown5 hgrow5 hat5 hbk5 hpr5 q0 q1)
    go_returns
    refine ⟨HB5.out.setCell (p := ⟨w1.heap.size, 0, none⟩) hs1 _, .inr ⟨by rw [HL.out]; omega, _, rfl, ?_, HK5.out⟩⟩
    rw [HPS.out]
    exact HP5.out _
end Go.Proofs.Ytgfienopijlnkaa
