/-
  The law MatchPlain returns true; no condition beyond those that each theorem states.
-/
import Derived.Test.YtjfkppbfckgckaaWord11M
set_option linter.unusedVariables false
set_option linter.unusedSimpArgs false
namespace Go.Proofs.Ytjfkppbfckgckaa
set_option maxRecDepth 20000
open Go.RowKit Go.Rb
attribute [local irreducible] Go.wpQuiet

def cz (W : List (Nat × Nat)) : List (Int × Int) := W.map fun q => ((q.1 : Int), (q.2 : Int))
def WantO (w : World) (W : List (Nat × Nat)) (v : Value) (wr : World) : Prop := Own wr 33 2 v W.length (hcs (cz W)) ∧ (∀ k, v.ownBlock = some k → w.heap.size ≤ k) ∧ Below w.heap.size w wr
def WantF (ls ts : List Bool) (k : Nat) (W : List (Nat × Nat)) : Prop := ∃ f, ts.length + 1 ≤ f + k ∧ wantP ls ts f k W = wantP ls ts (ts.length + 1) 0 []
theorem want_yes {ls ts : List Bool} {k : Nat} {W : List (Nat × Nat)} (h : WantF ls ts k W) (hk : k + ls.length ≤ ts.length) (h0 : 0 < ls.length) (hs : isAt ls ts k = true) : WantF ls ts (k + ls.length) (W ++ [(k, k + ls.length)]) := by
  obtain ⟨f, h1, h2⟩ := h
  obtain ⟨f, rfl⟩ : ∃ g, f = g + 1 := ⟨f - 1, by omega⟩
  rw [wantP, if_neg (by omega), if_pos hs] at h2
  exact ⟨f, by omega, h2⟩
theorem want_no {ls ts : List Bool} {k : Nat} {W : List (Nat × Nat)} (h : WantF ls ts k W) (hk : k + ls.length ≤ ts.length) (hs : ¬ isAt ls ts k = true) : WantF ls ts (k + 1) W := by
  obtain ⟨f, h1, h2⟩ := h
  obtain ⟨f, rfl⟩ : ∃ g, f = g + 1 := ⟨f - 1, by omega⟩
  rw [wantP, if_neg (by omega), if_neg hs] at h2
  exact ⟨f, by omega, h2⟩
theorem want_end {ls ts : List Bool} {k : Nat} {W : List (Nat × Nat)} (h : WantF ls ts k W) (hk : ts.length < k + ls.length) : W = wantP ls ts (ts.length + 1) 0 [] := by
  obtain ⟨f, h1, h2⟩ := h
  rw [wantP_out hk] at h2
  exact h2
theorem want_push {w w1 : World} {W : List (Nat × Nat)} {g o c n a e : Nat} (hO : Own w1 33 2 (.slice (some ⟨g, o, none⟩) (n + 1) c) (n + 1) (hcs (cz W) ++ [.int .i64 (a : Int), .int .i64 (e : Int)])) (hn : W.length = n) (hk : ∀ k, (Value.slice (some ⟨g, o, none⟩) (n + 1) c).ownBlock = some k → w.heap.size ≤ k) (hb : Below w.heap.size w w1) : WantO w (W ++ [(a, e)]) (.slice (some ⟨g, o, none⟩) (n + 1) c) w1 := by
  refine ⟨?_, hk, hb⟩
  have : hcs (cz (W ++ [(a, e)])) = hcs (cz W) ++ [.int .i64 (a : Int), .int .i64 (e : Int)] := by simp [hcs, cz]
  rw [List.length_append, hn, this]
  exact hO
theorem ext_eq {ls ts : List Bool} {k : Nat} (hk : k + ls.length ≤ ts.length) : ((mkS (wB ts)).extract k (k + ls.length) = mkS (wB ls)) ↔ isAt ls ts k = true := by
  unfold isAt
  rw [decide_eq_true_eq]
  have he : ((mkS (wB ts)).extract k (k + ls.length)).data.toList = wB ((ts.drop k).take ls.length) := by
    rw [ByteArray.data_extract]
    simp [mkS, wB, Array.toList_extract, List.extract, List.map_take, List.map_drop]
  constructor
  · intro h
    have h1 : ((mkS (wB ts)).extract k (k + ls.length)).data.toList = (mkS (wB ls)).data.toList := by rw [h]
    rw [he, mkS_list] at h1
    have hinj : ∀ (a b : List Bool), wB a = wB b → a = b := by
      intro a
      induction a with
      | nil => intro b h; cases b with
        | nil => rfl
        | cons x b => simp [wB] at h
      | cons x a ih => intro b h; cases b with
        | nil => simp [wB] at h
        | cons y b =>
          simp only [wB, List.map_cons, List.cons.injEq] at h
          rw [chB_inj h.1, ih b h.2]
    exact hinj _ _ h1
  · intro h
    apply ByteArray.ext
    apply Array.toList_inj.1
    rw [he, h]
    rfl
set_option maxHeartbeats 4000000 in
theorem plain_law (ls ts : List Bool) (A0 A1 : Option Addr) (n0 c0 n1 c1 : Nat) (w : World) (h0 : Rd w w.heap.size 1 A0 n0 (ls.map Value.bool)) (h1 : Rd w w.heap.size 1 A1 n1 (ts.map Value.bool)) (hc0 : n0 ≤ c0) (hc1 : n1 ≤ c1) :
    Calls Try.prog 4 #[.slice A0 n0 c0, .slice A1 n1 c1] w fun e w' => e = .returned (.bool true) ∧ Below w.heap.size w w' := by
  obtain ⟨i0, hi0, hz0, hz1, hz2⟩ := info_parts infoHit
  have HAW := Lib.hid (awake_any w)
  have hl0 : ls.length = n0 := by simpa using h0.1
  have hl1 : ts.length = n1 := by simpa using h1.1
  have HL0 := Lib.hid hl0
  have HL1 := Lib.hid hl1
  have HR0 := Lib.hid h0
  have HR1 := Lib.hid h1
  clear h0 h1 hl0 hl1
  by_cases hz : n0 = 0
  · subst hz
    go_enter Try.func4, Try.ntmps4
    go_wp2_with fail
    refine HAW.out.mono ?_
    rintro e1 w1 ⟨rfl, hb1⟩
    have HB1 := Lib.hid hb1
    have HAW1 := Lib.hid (awake_any w1)
    clear hb1
    go_wp2_with fail
    refine HAW1.out.mono ?_
    rintro e2 w2 ⟨rfl, hb2⟩
    have HB2 := Lib.hid hb2
    clear hb2
    go_wp2_with fail
    go_ret
    exact ⟨rfl, below_trans HB1.out HB2.out⟩
  by_cases h20 : 20 < n0
  · have hzz : ((n0 : Int) == 0) = false := by rw [beq_eq_false_iff_ne]; omega
    go_enter Try.func4, Try.ntmps4
    go_wp2_with fail
    refine HAW.out.mono ?_
    rintro e1 w1 ⟨rfl, hb1⟩
    have HB1 := Lib.hid hb1
    have HAW1 := Lib.hid (awake_any w1)
    clear hb1
    go_wp2_with fail
    refine HAW1.out.mono ?_
    rintro e2 w2 ⟨rfl, hb2⟩
    have HB2 := Lib.hid hb2
    clear hb2
    go_wp2_with fail
    go_ret
    exact ⟨rfl, below_trans HB1.out HB2.out⟩
  have hzz : ((n0 : Int) == 0) = false := by rw [beq_eq_false_iff_ne]; omega
  by_cases h60 : 60 < n1
  · skip
    go_enter Try.func4, Try.ntmps4
    go_wp2_with fail
    refine HAW.out.mono ?_
    rintro e1 w1 ⟨rfl, hb1⟩
    have HB1 := Lib.hid hb1
    have HAW1 := Lib.hid (awake_any w1)
    clear hb1
    go_wp2_with fail
    refine HAW1.out.mono ?_
    rintro e2 w2 ⟨rfl, hb2⟩
    have HB2 := Lib.hid hb2
    clear hb2
    go_wp2_with fail
    go_ret
    exact ⟨rfl, below_trans HB1.out HB2.out⟩
  go_enter Try.func4, Try.ntmps4
  go_wp2_with fail
  refine HAW.out.mono ?_
  rintro e1 w1 ⟨rfl, hb1⟩
  have HB1 := Lib.hid hb1
  have HW0 := Lib.hid (word_any ls A0 n0 c0 w.heap.size w1 (HR0.out.below hb1) hb1.size hc0 (by omega))
  have HW1 := Lib.hid (word_any ts A1 n1 c1 w.heap.size w1 (HR1.out.below hb1) hb1.size hc1 (by omega))
  have hs0 : (mkS (wB ls)).size = n0 := by rw [mkS_size, wB_len, HL0.out]
  have hs1 : (mkS (wB ts)).size = n1 := by rw [mkS_size, wB_len, HL1.out]
  obtain ⟨S, hS⟩ : ∃ S, mkS (wB ls) = S := ⟨_, rfl⟩
  obtain ⟨U, hU⟩ : ∃ U, mkS (wB ts) = U := ⟨_, rfl⟩
  rw [hS] at hs0 HW0
  rw [hU] at hs1 HW1
  have HS := Lib.hid hS
  have HU := Lib.hid hU
  clear hb1 HAW hS hU
  go_wp2_with fail
  refine HW0.out.mono ?_
  rintro e2 w2 ⟨rfl, rfl⟩
  go_wp2_with fail
  refine HW1.out.mono ?_
  rintro e3 w3 ⟨rfl, rfl⟩
  clear HW0 HW1
  go_wp2_with fail
  go_loopw [8, 9] (fun v8 v9 wr => ∃ (k : Nat) (W : List (Nat × Nat)) (nw : Nat), v9 = .int .i64 (k : Int) ∧ k ≤ n1 ∧ W.length = nw ∧ nw ≤ k ∧ Hid (WantF ls ts k W) ∧ Hid (WantO w W v8 wr)) (fun _ v9 _ => n1 - (intOf v9).toNat)
  case atStart => exact ⟨0, [], 0, rfl, by omega, rfl, by omega, ⟨ts.length + 1, by omega, rfl⟩, Own.nil_ _ _ _, by simp [Value.ownBlock], HB1.out⟩
  case round =>
  obtain ⟨k, W, nw, rfl, hk1, hnw, hnk, HF, HO⟩ := hrel
  obtain ⟨ho, hkb, hb⟩ := HO.out
  rw [hnw] at ho
  obtain ⟨Aw, cw, rfl, hcw, -⟩ := ho.len_
  have HOW := Lib.hid ho
  have HK := Lib.hid hkb
  have HB := Lib.hid hb
  have HNW := Lib.hid hnw
  have hsr := hb.size
  clear ho hkb hb HO hnw
  by_cases hle : k + n0 ≤ n1
  · have hext : (U.extract k (k + n0) = S) ↔ isAt ls ts k = true := by
      have := ext_eq (ls := ls) (ts := ts) (k := k) (by rw [HL0.out, HL1.out]; exact hle)
      rw [HL0.out, HS.out, HU.out] at this
      exact this
    by_cases hat : isAt ls ts k = true
    · have hq := hext.2 hat
      have HAT := Lib.hid hat
      clear hext hat
      go_wp2_with (at_builtin; refine wpList_append_mine _ rfl (.tmp 51) (.tmp 58) _ rfl 33 i0 _ 2 16 Try.underlying27 hi0 hz0 hz1 hz2 rfl (by omega) (.slice Aw nw cw) nw (hcs (cz W)) rfl (by exact HOW.out.alloc _) _ 1 1 [.int .i64 (k : Int), .int .i64 ((k : Int) + (n0 : Int))] rfl rfl (by exact news_pushs rfl rfl) (by simp [Value.oneCell']) (by omega) (by simp only [maxLen]; omega) (by omega) _ rfl ?_; intro g5 o5 c5 w5 hown5 hgrow5 hat5; have HO5 := Lib.hid hown5; have HB5 := Lib.hid (Below.grown (HB.out.alloc HB.out.size _) hgrow5 (by simp; omega) HK.out); have HK5 := Lib.hid (zs_far (o := o5) (n := nw + 1) (c := c5) (B := w.heap.size) HK.out hat5 (by simp; omega)); clear hown5 hgrow5 hat5)
      have HN5 : Hid (WantO w (W ++ [(k, k + n0)]) (.slice (some ⟨g5, o5, none⟩) (nw + 1) c5) w5) := want_push (e := k + n0) (by have h := HO5.out; push_cast; exact h) HNW.out HK5.out HB5.out
      have HF5 : Hid (WantF ls ts (k + n0) (W ++ [(k, k + n0)])) := by
        have h := want_yes HF.out (by rw [HL0.out, HL1.out]; exact hle) (by rw [HL0.out]; omega) HAT.out
        rw [HL0.out] at h
        exact h
      go_roundw
      case rel => exact ⟨k + n0, W ++ [(k, k + n0)], nw + 1, by go_num, by omega, by rw [List.length_append, HNW.out]; rfl, by omega, HF5.out, HN5.out⟩
      case measure => simp [intOf] <;> omega
    · have hq : ¬ U.extract k (k + n0) = S := fun h => hat (hext.1 h)
      have HF5 : Hid (WantF ls ts (k + 1) W) := want_no HF.out (by rw [HL0.out, HL1.out]; exact hle) hat
      have HN5 : Hid (WantO w W (.slice Aw nw cw) wr) := ⟨by rw [HNW.out]; exact HOW.out, HK.out, HB.out⟩
      clear hext hat
      have hq1 : ((U.extract k (k + n0)).toList == S.toList) = false := by
        rw [beq_eq_false_iff_ne]
        intro h
        apply hq
        apply ByteArray.ext
        apply Array.toList_inj.1
        rw [ByteArray.toList_eq, ByteArray.toList_eq] at h
        exact h
      go_wp2_with fail
      go_roundw
      case rel => exact ⟨k + 1, W, nw, by go_num, by omega, HNW.out, by omega, HF5.out, HN5.out⟩
      case measure => simp [intOf] <;> omega
  · have HWE : Hid (W = wantP ls ts (ts.length + 1) 0 []) := want_end HF.out (by rw [HL0.out, HL1.out]; omega)
    have HM := Lib.hid (made_ch (l := ls) (by rw [HL0.out]; omega) (by rw [HL0.out]; omega) wr)
    rw [HS.out] at HM
    go_wp2_with fail
    refine HM.out.mono ?_
    rintro e4 w4 ⟨hb4, v4, rfl, hp4⟩
    obtain ⟨Ap, cp, rfl, hcp, hpr⟩ := ProgO.prd hp4
    have HB4 := Lib.hid (below_trans HB.out hb4)
    have HW4 : Hid (Own w4 33 2 (.slice Aw nw cw) nw (hcs (cz W))) := HOW.out.below hb4 fun k hk => HOW.out.lt hk
    have hpl : (prL ls).length = n0 + 1 := by rw [prL_len, HL0.out]
    have HPL := Lib.hid hpl
    rw [hpl] at hcp ⊢
    obtain ⟨hri, hse⟩ := prL_right (l := ls) (by rw [HL0.out]; omega) (by rw [HL0.out]; omega)
    have HRI := Lib.hid hri
    have HSE := Lib.hid hse
    have hrr := refRight_any ((prL ls).map toIn) Ap (n0 + 1) cp w4 (hpr.ins (Nat.le_refl _)) (by rw [List.length_map]; exact hpl) (by omega) hcp
    rw [(rightP_iff hpl).2 ⟨hri, by omega⟩] at hrr
    have HRR := Lib.hid hrr
    have HPR := Lib.hid hpr
    clear hb4 hp4 hpr hpl hri hse hrr HM
    go_wp2_with fail
    refine HRR.out.mono ?_
    rintro e5 w5 ⟨rfl, hb5⟩
    have HB5 := Lib.hid (below_trans HB4.out hb5)
    have hdl : (decT U).length = n1 := by rw [← HU.out, decT_ch_len, HL1.out]
    have hrs : rsL U = ts.map chI := by rw [← HU.out, rsL_ch]
    have ham := allM_any (p := prL ls) HPL.out (by omega) (by omega) HRI.out HSE.out (s := U) (by omega) hcp (L := LW ls ts) (fun k hk => by rw [hrs]; exact lastW ls ts k) w5 (B := w4.heap.size) hb5.size (HPR.out.below hb5)
    rw [hdl] at ham
    have HAM := Lib.hid ham
    have HW5 : Hid (Own w5 33 2 (.slice Aw nw cw) nw (hcs (cz W))) := HW4.out.below hb5 fun k hk => HW4.out.lt hk
    clear hb5 ham hdl hrs HRR
    go_wp2_with fail
    refine HAM.out.mono ?_
    rintro e6 w6 ⟨v6, rfl, hh6, -, hb6⟩
    have HB6 := Lib.hid (below_trans HB5.out hb6)
    have heq : allP (LW ls ts) n1 (n1 + 2) 0 none [] = W := by
      rw [HWE.out, ← HL1.out]
      exact allP_want (by rw [HL0.out]; omega) (ts.length + 1) 0 _ _ none [] (by omega) (by omega) (by omega)
    rw [heq] at hh6
    have hcz : hpos U W = cz W := by
      rw [← HU.out]
      refine hpos_ch ?_
      rw [HWE.out]
      exact wantP_bd _ _ _ (fun q hq => by simp at hq)
    obtain ⟨A6, c6, rfl, hc6, -⟩ := Own.len_ hh6
    have hh7 := hsO_ln HNW.out hh6
    rw [HNW.out] at hc6 hh7 ⊢
    rw [hitsC_hcs, hcz] at hh7
    have hczl : (cz W).length = nw := by unfold cz; rw [List.length_map]; exact HNW.out
    have hsm := sameH_any (c1 := c6) (c2 := cw) w6 hczl hczl (Own.rd hh7) ((Own.rd HW5.out).below hb6) (by omega) (by omega)
    rw [decide_eq_true rfl] at hsm
    have HSM := Lib.hid hsm
    clear hb6 hh6 hh7 hsm heq hcz hczl HAM
    go_wp2_with fail
    refine HSM.out.mono ?_
    rintro e7 w7 ⟨rfl, q, rfl⟩
    have HBF := Lib.hid (below_drewN HB6.out q)
    clear HSM
    go_wp2_with fail
    go_ret
    exact ⟨rfl, HBF.out⟩
end Go.Proofs.Ytjfkppbfckgckaa
