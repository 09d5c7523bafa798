/-
  The contract of slices.DeleteFunc at hits; no condition beyond those that each theorem states.
-/
import Derived.Test.YtbgmdjceecbbhaaDoorMode2
import Derived.Laws.CopyRow
namespace Go.Proofs.YtbgmdjceecbbhaaDoor
open Go.RowKit Go.Rb
attribute [local irreducible] Go.wpQuiet

theorem hts_set (l : List Ht) (i : Nat) (h : Ht) : hts (l.set i h) = ((hts l).set (i * 2) (.int .i64 h.f)).set (i * 2 + 1) (.int .i64 h.t) := by
  induction l generalizing i with
  | nil => simp [hts]
  | cons x t ih =>
    cases i with
    | zero => rfl
    | succ i =>
      rw [List.set_cons_succ, show hts (x :: t.set i h) = ht x ++ hts (t.set i h) from rfl, ih, show hts (x :: t) = ht x ++ hts t from rfl]
      rw [show (i + 1) * 2 = i * 2 + 1 + 1 by omega]
      rfl
theorem zeroH (W : World) : (zeroValue 47).run Tryd.prog W = .ok (.agg #[.int .i64 0, .int .i64 0]) W := by kernel_rfl
/-- clear(s[i:]), and what is left of s. -/
theorem clear_tail {w : World} {pb po n c i : Nat} {xs : List Value} (h : Own w 47 2 (.slice (some ⟨pb, po, none⟩) n c) n xs) (hi : i ≤ n) :
    ∃ A' c' w', (∀ W, (Instr.slice 30 (.slice (some ⟨pb, po, none⟩) n c) (some (.int .i64 (i : Int))) none none).run Tryd.prog W = .ok (.slice A' (n - i) c') W) ∧
      (∀ ty, (Builtin.clear_ #[30] ty #[.slice A' (n - i) c']).run Tryd.prog w = .ok (.tuple #[]) w') ∧ Only (fun k => k = pb) w w' ∧ Own w' 47 2 (.slice (some ⟨pb, po, none⟩) i c) i (xs.take (i * 2)) := by
  rcases h.2 with ⟨h0, -⟩ | ⟨g, off, cap, cur, hv, hg, hnc, hcm, hsz, hx⟩
  · simp at h0
  · simp only [Value.slice.injEq, Option.some.injEq, Addr.mk.injEq, true_and, and_true] at hv
    obtain ⟨⟨rfl, rfl⟩, rfl⟩ := hv
    have hrun : ∀ W, (Instr.slice 30 (.slice (some ⟨pb, po, none⟩) n c) (some (.int .i64 (i : Int))) none none).run Tryd.prog W = .ok (.slice (some (if c = i then ⟨pb, po, none⟩ else ⟨pb, po + i * 2, none⟩)) (n - i) (c - i)) W := fun W => by
      rw [run_slice_l (P := Tryd.prog) W 30 _ n c (by kernel_rfl) .i64 (i : Int) (by omega) (by omega), show (sizeOf (Tryd.prog.elem 30)).run Tryd.prog W = .ok 2 W by kernel_rfl]
      simp only [Result.andThen, Int.toNat_natCast, sliced, Option.map_some, Addr.add_lit]
      split <;> rfl
    have hxl : xs.length = n * 2 := h.1
    by_cases hin : i = n
    · subst hin
      refine ⟨_, _, w, hrun, fun ty => ?_, Only.refl _ _, ?_⟩
      · rw [Nat.sub_self]
        simp [Builtin.clear_, run_underlying Tryd.underlying30]
      · rw [List.take_of_length_le (by omega)]; exact h
    · have hci : ¬ c = i := by omega
      obtain ⟨zs, hzs⟩ : ∃ zs, (Builtin.zeroCells (Value.agg #[.int .i64 0, .int .i64 0]).cells (n - i)).toList = zs := ⟨_, rfl⟩
      have hzl : zs.length = (n - i) * 2 := by rw [← hzs]; simp [Builtin.zeroCells, Value.cells]
      have hz1 : ∀ v ∈ zs, v.oneCell' = true := by
        intro v hv
        rw [← hzs] at hv
        simp only [Builtin.zeroCells, Value.cells, Array.toList_map, List.mem_map, Array.toList_range] at hv
        obtain ⟨q, -, rfl⟩ := hv
        have : q % 2 = 0 ∨ q % 2 = 1 := by omega
        rcases this with h | h <;> simp [h, Value.oneCell']
      have hst := run_storeCells_at Tryd.prog pb (po + i * 2) 47 zs 0 cur w hg (by rw [hzl]; omega) hz1
      simp only [Nat.add_zero] at hst
      refine ⟨_, _, w.setRow pb (cur.toList.take (po + i * 2) ++ zs ++ cur.toList.drop (po + i * 2 + zs.length)).toArray, hrun, fun ty => ?_, ?_, ?_⟩
      · rw [if_neg hci]
        obtain ⟨m, hm⟩ : ∃ m, n - i = m + 1 := ⟨n - i - 1, by omega⟩
        rw [hm] at hzs ⊢
        simp [Builtin.clear_, run_underlying Tryd.underlying30, zeroH, hzs, hst]
      · exact ⟨rfl, rfl, rfl, by simp [World.setRow], fun k _ hk => setRow_other w pb k _ hk⟩
      · refine ⟨by rw [List.length_take, hxl]; omega, .inr ⟨pb, po, c, _, rfl, setRow_heap w pb cur _ 47 _ hg, by omega, hcm, ?_, ?_⟩⟩
        · simp only [List.size_toArray, List.length_append, List.length_take, List.length_drop, Array.length_toList]
          omega
        · rw [List.append_assoc, List.drop_append_of_le_length (by simp; omega), List.drop_take, Nat.add_sub_cancel_left, List.take_append_of_le_length (by simp; omega), List.take_take, Nat.min_self, ← hx, List.take_take]
          congr 1
          omega
set_option maxRecDepth 20000 in
set_option maxHeartbeats 8000000 in
theorem del_any (x : List UInt8) (hs : List Ht) (N Ai : Int) (A : Option Addr) (n c g : Nat) (w : World) (hl : hs.length = n) (hv : Own w 47 2 (.slice A n c) n (hts hs)) (hg : Blk w g 29 #[.int .i64 N, .int .i64 Ai, .string (mk x)]) (hn : n ≤ 1000) :
    Calls Tryd.prog 17 #[.slice A n c, fv g] w fun e w' => ∃ v, e = .returned v ∧ Own w' 47 2 v (hs.filter (good x.length)).length (hts (hs.filter (good x.length))) ∧ Only (fun k => (Value.slice A n c).ownBlock = some k) w w' ∧ (∀ k, v.ownBlock = some k → (Value.slice A n c).ownBlock = some k) := by
  have HI := Lib.hid (index_any x hs A n c g w hl hv (hg.cell 2) hn)
  have hfb := firstBad_le x.length hs
  have hff := filter_first x.length hs
  have hfa := filter_all x.length hs
  have hb0 := bad_at x.length hs
  have HB0 : Hid (∀ (i : Nat) (hi : i < hs.length), i = firstBad x.length hs → good x.length (hs[i]'hi) = false) := fun i hi h => by subst h; exact bad_at x.length hs hi
  obtain ⟨fb, hfb'⟩ : ∃ k, firstBad x.length hs = k := ⟨_, rfl⟩
  rw [hfb'] at hfb HI hff hfa HB0
  have HFF := Lib.hid hff
  have HL := Lib.hid hl
  have HV := Lib.hid hv
  have HG := Lib.hid hg
  rw [hl] at hfb hfa
  clear hb0 hfb' hff hl hg
  by_cases hfn : fb = n
  · have HX : Hid (hs.filter (good x.length) = hs) := hfa hfn
    rw [if_pos hfn] at HI
    clear hv hfa hfb hfn
    unfold fv at HI ⊢
    go_enter Tryd.func17, Tryd.ntmps17
    go_wp2_with (go_at_call 25; refine HI.out.mono ?_; rintro e1 w1 ⟨rfl, hb1⟩; have HB1 := Lib.hid hb1; clear hb1)
    go_ret
    rw [HX.out]
    refine ⟨.slice A n c, rfl, ?_, (Only.of_below HB1.out).mono (fun k hk h => by omega), fun k hk => hk⟩
    rw [HL.out]
    exact HV.out.below HB1.out (fun k hk => HV.out.lt hk)
  · have hlt : fb < n := by omega
    obtain ⟨pb, po, hA, hpl, -⟩ := hv.rd.2 (by omega)
    subst hA
    rw [if_neg hfn] at HI
    have hgne : g ≠ pb := fun e => own_ne_blk' hv HG.out (by decide) (by rw [e]; rfl)
    have HGNE := Lib.hid hgne
    have e1 : ((fb : Int) == -1) = false := by rw [beq_eq_false_iff_ne]; omega
    have HBAD := Lib.hid (HB0.out fb (by rw [HL.out]; exact hlt) rfl)
    clear hfa hfn hgne hv HB0
    have HOF : Hid (∀ k, (Value.slice (some ⟨pb, po, none⟩) n c).ownBlock = some k ↔ k = pb) := fun k => by simp [Value.ownBlock]; exact eq_comm
    unfold fv at HI ⊢
    go_enter Tryd.func17, Tryd.ntmps17
    go_wp2_with (go_at_call 25; refine HI.out.mono ?_; rintro e1 w1 ⟨rfl, hb1⟩; have HB1 := Lib.hid hb1; clear hb1)
    go_loopw [5, 6, 7] (fun iv jv _ wr => ∃ (i j : Nat) (cur : List Ht), iv = .int .i64 i ∧ jv = .int .i64 j ∧ i < j ∧ j ≤ n ∧ Hid (cur.length = n) ∧ Hid (Own wr 47 2 (.slice (some ⟨pb, po, none⟩) n c) n (hts cur)) ∧ Hid (cur.take i = (hs.take j).filter (good x.length)) ∧ Hid (cur.drop j = hs.drop j) ∧ Hid (Only (fun k => k = pb) w wr)) (fun _ jv _ _ => n - (intOf jv).toNat)
    case atStart =>
      refine ⟨fb, fb + 1, hs, rfl, by go_num, by omega, by omega, HL.out, HV.out.below HB1.out (fun k hk => HV.out.lt hk), ?_, (show Hid (_ = _) from rfl), (Only.of_below HB1.out).mono (fun k hk h => by omega)⟩
      show hs.take fb = _
      rw [List.take_add_one, List.getElem?_eq_getElem (by rw [HL.out]; exact hlt), List.filter_append, HFF.out]
      simp [HBAD.out]
    case round =>
      obtain ⟨i, j, cur, rfl, rfl, hij, hjn, hcl, hown, htk, hdr, hon⟩ := hrel
      by_cases hj : j < n
      · obtain ⟨pb', po', hA, -, x0, x1⟩ := own_cell2 hown.out hcl.out j hj
        simp only [Option.some.injEq, Addr.mk.injEq, and_true] at hA
        obtain ⟨rfl, rfl⟩ := hA
        have hcj : cur[j]'(by rw [hcl.out]; exact hj) = hs[j]'(by rw [HL.out]; exact hj) := by
          have := congrArg (fun l => l[0]?) hdr.out
          simp only [List.getElem?_drop, Nat.add_zero] at this
          rw [List.getElem?_eq_getElem (by rw [hcl.out]; exact hj), List.getElem?_eq_getElem (by rw [HL.out]; exact hj)] at this
          injection this
        have hgw : Blk wr g 29 #[.int .i64 N, .int .i64 Ai, .string (mk x)] := HG.out.only hon.out HGNE.out
        have hB := bad_any (cur[j]'(by rw [hcl.out]; exact hj)) g 0 0 x _ ((hgw.alloc (.cells #[.int .i64 (cur[j]'(by rw [hcl.out]; exact hj)).f, .int .i64 (cur[j]'(by rw [hcl.out]; exact hj)).t] 47)).cell 2)
        have i1 : (j : Int) < (n : Int) := by omega
        have i2 : (0 : Int) ≤ (j : Int) := by omega
        have i3 : (0 : Int) ≤ (i : Int) := by omega
        have i4 : (i : Int) < (n : Int) := by omega
        have hdr2 : Hid (cur.drop (j + 1) = hs.drop (j + 1)) := by
          show cur.drop (j + 1) = hs.drop (j + 1)
          rw [← List.drop_drop, ← List.drop_drop, hdr.out]
        have hft : ∀ b, good x.length (cur[j]'(by rw [hcl.out]; exact hj)) = b → (hs.take (j + 1)).filter (good x.length) = (hs.take j).filter (good x.length) ++ if b then [cur[j]'(by rw [hcl.out]; exact hj)] else [] := fun b hb => by
          rw [List.take_add_one, List.getElem?_eq_getElem (by rw [HL.out]; exact hj), List.filter_append, hcj]
          rw [hcj] at hb
          cases b <;> simp [hb]
        have hfz := (hown.out.form (by omega))
        obtain ⟨g', o', c', hv', -, -, -, -, hfr⟩ := hfz
        simp only [Value.slice.injEq, Option.some.injEq, Addr.mk.injEq, true_and, and_true] at hv'
        obtain ⟨⟨rfl, rfl⟩, rfl⟩ := hv'
        by_cases hgd : good x.length (cur[j]'(by rw [hcl.out]; exact hj)) = true
        · rw [hgd] at hB
          have HB := Lib.hid hB
          have HFT := Lib.hid (hft true hgd)
          have HOW : Hid (∀ w2, Own w2 47 2 (.slice (some ⟨pb, po, none⟩) n c) n (hts cur) → Own ((w2.setCell ⟨pb, po + i * 2, none⟩ (.int .i64 (cur[j]'(by rw [hcl.out]; exact hj)).f)).setCell ⟨pb, po + i * 2 + 1, none⟩ (.int .i64 (cur[j]'(by rw [hcl.out]; exact hj)).t)) 47 2 (.slice (some ⟨pb, po, none⟩) n c) n (hts (cur.set i (cur[j]'(by rw [hcl.out]; exact hj))))) := fun w2 h2 => by
            rw [hts_set]
            exact (h2.store (i * 2) (by omega) _).store (i * 2 + 1) (by omega) _
          have htk2 : Hid ((cur.set i (cur[j]'(by rw [hcl.out]; exact hj))).take (i + 1) = (hs.take (j + 1)).filter (good x.length)) := by
            show _ = _
            rw [HFT.out, if_pos rfl, ← htk.out, List.take_add_one]
            congr 1
            · rw [List.take_set_of_le (by omega)]
            · rw [List.getElem?_set, if_pos rfl, if_pos (by rw [hcl.out]; omega)]; rfl
          have hdr3 : Hid ((cur.set i (cur[j]'(by rw [hcl.out]; exact hj))).drop (j + 1) = hs.drop (j + 1)) := by
            show _ = _
            rw [List.drop_set_of_lt (by omega), hdr2.out]
          have hcl2 : Hid ((cur.set i (cur[j]'(by rw [hcl.out]; exact hj))).length = n) := by show _ = _; rw [List.length_set, hcl.out]
          clear hB hgd hft hcj
          generalize cur.set i (cur[j]'(by rw [hcl.out]; exact hj)) = cur2 at *
          generalize cur[j]'(by rw [hcl.out]; exact hj) = h at *
          go_wp2_with (go_at_call 19; refine HB.out.mono ?_; rintro e2 w2 ⟨rfl, hb2⟩; have HB2 := Lib.hid (below_trans (below_al (Below.refl _ wr) _) hb2); have HO2 := Lib.hid (hown.out.below HB2.out (fun k hk => hown.out.lt hk)); have hbk := (Blk.new wr 47 #[.int .i64 h.f, .int .i64 h.t]).below hb2 (by simp); have y0 := hbk.cell 0; have y1 := hbk.cell 1; simp only [List.getElem?_toArray, List.getElem?_cons_zero, List.getElem?_cons_succ] at y0 y1; obtain ⟨g3, o3, c3, hv3, -, -, -, -, hfr3⟩ := HO2.out.form (by omega); simp only [Value.slice.injEq, Option.some.injEq, Addr.mk.injEq, true_and, and_true] at hv3; obtain ⟨⟨rfl, rfl⟩, rfl⟩ := hv3; have hf1 := hfr3 (po + i * 2); have hf2 := hfr3 (po + i * 2 + 1); obtain ⟨qb, qo, hq, -, z0, z1⟩ := own_cell2 HO2.out hcl.out i (by omega); simp only [Option.some.injEq, Addr.mk.injEq, and_true] at hq; obtain ⟨rfl, rfl⟩ := hq; clear hb2 hbk hfr3)
          go_roundw
          case rel => exact ⟨i + 1, j + 1, cur2, by go_num, by go_num, by omega, by omega, hcl2.out, HOW.out _ HO2.out, htk2.out, hdr3.out, ((hon.out.trans (Only.of_below HB2.out) (fun k hk h => by have h : wr.heap.size ≤ k := h; have := hon.out.size; omega)).setCell (p := ⟨pb, po + i * 2, none⟩) (fun _ => rfl) _).setCell (p := ⟨pb, po + i * 2 + 1, none⟩) (fun _ => rfl) _⟩
          case measure => simp [intOf]; omega
        · have hgd' : good x.length (cur[j]'(by rw [hcl.out]; exact hj)) = false := by simpa using hgd
          rw [hgd'] at hB
          have HB := Lib.hid hB
          have htk2 : Hid (cur.take i = (hs.take (j + 1)).filter (good x.length)) := by
            show _ = _
            rw [hft false hgd', htk.out]; simp
          clear hB hgd hgd' hft hcj
          generalize cur[j]'(by rw [hcl.out]; exact hj) = h at *
          go_wp2_with (go_at_call 19; refine HB.out.mono ?_; rintro e2 w2 ⟨rfl, hb2⟩; have HB2 := Lib.hid (below_trans (below_al (Below.refl _ wr) _) hb2); have HO2 := Lib.hid (hown.out.below HB2.out (fun k hk => hown.out.lt hk)); have hbk := (Blk.new wr 47 #[.int .i64 h.f, .int .i64 h.t]).below hb2 (by simp); have y0 := hbk.cell 0; have y1 := hbk.cell 1; simp only [List.getElem?_toArray, List.getElem?_cons_zero, List.getElem?_cons_succ] at y0 y1; obtain ⟨g3, o3, c3, hv3, -, -, -, -, hfr3⟩ := HO2.out.form (by omega); simp only [Value.slice.injEq, Option.some.injEq, Addr.mk.injEq, true_and, and_true] at hv3; obtain ⟨⟨rfl, rfl⟩, rfl⟩ := hv3; have hf1 := hfr3 (po + i * 2); have hf2 := hfr3 (po + i * 2 + 1); obtain ⟨qb, qo, hq, -, z0, z1⟩ := own_cell2 HO2.out hcl.out i (by omega); simp only [Option.some.injEq, Addr.mk.injEq, and_true] at hq; obtain ⟨rfl, rfl⟩ := hq; clear hb2 hbk hfr3)
          go_roundw
          case rel => exact ⟨i, j + 1, cur, rfl, by go_num, by omega, by omega, hcl.out, HO2.out, htk2.out, hdr2.out, hon.out.trans (Only.of_below HB2.out) (fun k hk h => by have h : wr.heap.size ≤ k := h; have := hon.out.size; omega)⟩
          case measure => simp [intOf]; omega
      · obtain rfl : j = n := by omega
        have htk2 := htk.out
        rw [List.take_of_length_le (show hs.length ≤ j by rw [HL.out]; exact Nat.le_refl _)] at htk2
        have hfl : (hs.filter (good x.length)).length = i := by rw [← htk2, List.length_take, hcl.out]; omega
        obtain ⟨A', c', w', hsl, hcr, hon2, hown2⟩ := clear_tail hown.out (show i ≤ j by omega)
        rw [← hts_take, htk2, ← hfl] at hown2
        rw [hfl] at hown2
        have i1 : ¬ (j : Int) < (j : Int) := by omega
        have i2 : (i : Int) ≤ (c : Int) := by
          obtain ⟨_, _, hv3, hc3, _⟩ := hown.out.len_
          simp only [Value.slice.injEq] at hv3
          obtain ⟨-, -, rfl⟩ := hv3
          omega
        have i3 : (0 : Int) ≤ (i : Int) := by omega
        have HO3 := Lib.hid hown2
        have HON := Lib.hid (hon.out.trans hon2 (fun _ _ h => h))
        have HFL := Lib.hid hfl
        have HIJ := Lib.hid hij
        clear hown2 hon2 htk2 hfl hdr htk hij
        go_wp2_with fail
        go_ret
        rw [HFL.out]
        exact ⟨_, rfl, HO3.out, HON.out.mono (fun k _ h => (HOF.out k).2 h), fun k hk => (HOF.out k).2 (by simpa [Value.ownBlock] using hk.symm)⟩
end Go.Proofs.YtbgmdjceecbbhaaDoor
