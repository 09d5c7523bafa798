/-
  The contract of reedbedref09.Parse, whatever token answers; no condition beyond those that each theorem states.
-/
import Derived.Test.YtgfienopijlnkaaLex
import Derived.Deep.Cut
namespace Go.Proofs.Ytgfienopijlnkaa
open Go.RowKit Go.Rb
attribute [local irreducible] Go.wpQuiet

theorem infoT : (Try.prog.info? 43).map (fun i => (i.zero, i.size, i.bytes)) = some (some zeroTok, 5, 56) := by kernel_rfl
theorem ptsF_len : ∀ (f : Nat) (l : List UInt8) (rs : List Int), ptsF f l = some rs → rs.length ≤ f
  | 0, l, rs, h => by simp [ptsF] at h; subst h; simp
  | f + 1, l, rs, h => by
    rw [ptsF] at h
    split at h
    · obtain rfl := Option.some.inj h; simp
    · split at h
      · cases hq : ptsF f (l.drop (refP l).2.toNat) with
        | none => rw [hq] at h; simp at h
        | some q =>
          rw [hq] at h
          obtain rfl := Option.some.inj h
          have := ptsF_len f _ q hq
          simp; omega
      · simp at h
theorem pts_len {s : ByteArray} {rs : List Int} (h : pts s.data.toList = some rs) : rs.length ≤ s.size := by
  have := ptsF_len _ _ _ h
  rwa [Array.length_toList] at this
theorem TksO.len_ {w : World} {v : Value} {l : List Tk} (h : TksO w v l) : ∃ A c, v = .slice A l.length c ∧ l.length ≤ c := by
  obtain ⟨svs, h1, h2, h3⟩ := h
  obtain ⟨A, c, e, hc, -⟩ := h2.len_
  exact ⟨A, c, e, hc⟩
theorem tks_done {w w2 w3 : World} {v v' : Value} {l : List Tk} {t : Tk} {svs : List Value} {As : Option Addr} {n cs : Nat} {c1 c2 : Obj} (hl : svs.length = l.length) (hv : Own w 43 5 v l.length (tkRow l svs)) (hs : ∀ (i : Nat) (t : Tk), l[i]? = some t → ∃ sv, svs[i]? = some sv ∧ SetV w sv t.set)
    (hb : Below w.heap.size w w2) (hg : ((w2.alloc c1).alloc c2).grownBy w3 v.ownBlock) (hO : Own w3 43 5 v' (l.length + 1) (tkRow l svs ++ [.int .i64 t.kind, .int .i64 t.r, .slice As n cs, .int .i64 t.mn, .int .i64 t.mx])) (hx : SetV w2 (.slice As n cs) t.set) : TksO w3 v' (l ++ [t]) :=
  tks_push hl hv hs ((hb.alloc hb.size _).alloc (by have := hb.size; simp; omega) _) hg hO ((hx.below (below_al (Below.refl _ _) _)).below (below_al (Below.refl _ _) _))
theorem par_done {w1 wr w2 w3 : World} {v : Value} {c1 c2 : Obj} (h4 : Below w1.heap.size w1 wr) (h2 : Below wr.heap.size wr w2) (hsz : w1.heap.size ≤ wr.heap.size) (hg : ((w2.alloc c1).alloc c2).grownBy w3 v.ownBlock) (hk : ∀ k, v.ownBlock = some k → w1.heap.size ≤ k) : Below w1.heap.size w1 w3 := by
  have h := h4.trans (h2.mono hsz)
  have hs := h2.size
  exact Below.grown ((h.alloc (by omega) _).alloc (by simp; omega) _) hg (by simp; omega) hk
theorem par_far {v : Value} {g H B o n c : Nat} (hk : ∀ k, v.ownBlock = some k → B ≤ k) (h : v.ownBlock = some g ∨ g = H) (hH : B ≤ H) : ∀ k, (Value.slice (some ⟨g, o, none⟩) n c).ownBlock = some k → B ≤ k := by
  intro k e
  have e2 : g = k := by simpa [Value.ownBlock] using e
  subst e2
  rcases h with h | h
  · exact hk _ h
  · omega
set_option maxRecDepth 20000 in
set_option maxHeartbeats 4000000 in
theorem parse_any {PT : List Int → Tk × Nat → Prop} {OK : List Int → Prop} (hL : Lexer PT OK) (s : ByteArray) (hOK : ∀ rs, pts s.data.toList = some rs → OK rs) (w : World) : Calls Try.prog 7 #[.string s] w (RetParse PT s w) := by
  obtain ⟨i0, hi0, hz0, hz1, hz2⟩ := info_parts infoT
  by_cases hs : 200 < s.size
  · go_enter Try.func7, Try.ntmps7
    go_wp2_with fail
    go_returns
    exact ⟨below_al (Below.refl _ _) _, .inr (.inl ⟨hs, rfl⟩)⟩
  have HLX := Lib.hid hL
  clear hL
  go_enter Try.func7, Try.ntmps7
  go_wp2_with fail
  refine (points_any s (by omega) _).mono ?_
  rintro e1 w1 ⟨hb1, hm⟩
  have hbk0 : Blk w1 w.heap.size 28 #[.int .i64 0, .slice none 0 0, .int .i64 0, .int .i64 0, .slice none 0 0] := (Blk.new w 28 #[.int .i64 0, .slice none 0 0, .int .i64 0, .int .i64 0, .slice none 0 0]).below hb1 (by simp)
  have hbe0 : Below w.heap.size w w1 := (below_al (Below.refl w.heap.size w) _).trans (hb1.mono (by simp))
  have hwl1 : w.heap.size < w1.heap.size := hbk0.lt
  have HBK0 := Lib.hid hbk0
  have HBE0 := Lib.hid hbe0
  clear hb1 hbk0 hbe0
  cases hp : pts s.data.toList with
  | none =>
    rw [hp] at hm
    obtain rfl := hm
    have HP := Lib.hid hp
    clear hp hOK
    go_wp2_with fail
    go_loopw [4, 6] (fun v4 v6 wr => v4 = .slice none 0 0 ∧ v6 = .slice none 0 0 ∧ wr = w1) (fun _ _ _ => 0)
    case atStart => exact ⟨rfl, rfl, rfl⟩
    case round =>
    obtain ⟨rfl, rfl, hw⟩ := hrel
    subst hw
    go_upto_region 12 with fail
    have hbl2 : Below wr.heap.size wr (wr.alloc (.cells #[.int .i64 0, .slice none 0 0, .int .i64 0, .int .i64 0, .slice none 0 0] 28)) := below_al (Below.refl _ _) _
    generalize wr.alloc (.cells #[.int .i64 0, .slice none 0 0, .int .i64 0, .int .i64 0, .slice none 0 0] 28) = w2 at hbl2 ⊢
    have HBL2 := Lib.hid hbl2
    clear hbl2
    have HBE2 := Lib.hid (HBE0.out.trans (HBL2.out.mono (Nat.le_of_lt hwl1)))
    have hbk := HBK0.out.below HBL2.out hwl1
    have HBK := Lib.hid hbk
    have hlw := hbk.lt
    have y0 := hbk.cell 0
    have y1 := hbk.cell 1
    have y2 := hbk.cell 2
    have y3 := hbk.cell 3
    have y4 := hbk.cell 4
    have z0 := hbk.frozen 0
    have z1 := hbk.frozen 1
    have z2 := hbk.frozen 2
    have z3 := hbk.frozen 3
    have z4 := hbk.frozen 4
    simp only [List.getElem?_toArray, List.getElem?_cons_succ, List.getElem?_cons_zero] at y0 y1 y2 y3 y4
    clear hbk
    go_wp2_with fail
    have hb5 := (((((HBK.out.set_ 0 (.int .i64 0)).set_ 1 (.slice none 0 0)).set_ 2 (.int .i64 0)).set_ 3 (.int .i64 0)).set_ 4 (.slice none 0 0))
    have hB5 := (((((HBE2.out.setCell (p := ⟨w.heap.size, 0, none⟩) (Nat.le_refl _) (.int .i64 0)).setCell (p := ⟨w.heap.size, 1, none⟩) (Nat.le_refl _) (.slice none 0 0)).setCell (p := ⟨w.heap.size, 2, none⟩) (Nat.le_refl _) (.int .i64 0)).setCell (p := ⟨w.heap.size, 3, none⟩) (Nat.le_refl _) (.int .i64 0)).setCell (p := ⟨w.heap.size, 4, none⟩) (Nat.le_refl _) (.slice none 0 0))
    generalize (((((w2.setCell ⟨w.heap.size, 0, none⟩ (.int .i64 0)).setCell ⟨w.heap.size, 1, none⟩ (.slice none 0 0)).setCell ⟨w.heap.size, 2, none⟩ (.int .i64 0)).setCell ⟨w.heap.size, 3, none⟩ (.int .i64 0)).setCell ⟨w.heap.size, 4, none⟩ (.slice none 0 0)) = W5 at hb5 hB5 ⊢
    have x0 := hb5.cell 0
    have x1 := hb5.cell 1
    have x2 := hb5.cell 2
    have x3 := hb5.cell 3
    have x4 := hb5.cell 4
    simp at x0 x1 x2 x3 x4
    have HB5 := Lib.hid hB5
    clear hb5 hB5
    clear y0 z0 y1 z1 y2 z2 y3 z3 y4 z4
    try simp only [Exit.inBlock, Exit.then]
    refine bodyPost_ret (by simp [results, Try.results7, go_sem, x0, x1, x2, x3, x4]; try rfl) rfl ?_
    refine ⟨HB5.out, .inr (.inr ⟨rfl, .inl HP.out⟩)⟩
  | some rs =>
    rw [hp] at hm
    obtain ⟨v, rfl, hown, -⟩ := hm
    have hln := pts_len hp
    have HP := Lib.hid hp
    have HOK := Lib.hid (hOK rs hp)
    obtain ⟨A0, c0, rfl, hc0, -⟩ := hown.len_
    have hrd := hown.rd
    have HRD := Lib.hid hrd
    clear hp hOK hown hrd
    go_wp2_with fail
    go_loopw [4, 6] (fun v4 v6 wr => ∃ (x : List Int) (l : List Tk) (A4 : Option Addr) (n4 c4 : Nat), v4 = .slice A4 n4 c4 ∧ n4 ≤ c4 ∧ l.length + n4 ≤ 200 ∧ Hid (x.length = n4) ∧ Hid (Rd w1 w1.heap.size 1 A4 n4 (x.map iV)) ∧ Hid (Below w1.heap.size w1 wr) ∧ Hid (TksO wr v6 l) ∧ Hid (∀ k, v6.ownBlock = some k → w1.heap.size ≤ k) ∧ Hid (Lex PT rs l x)) (fun v4 _ _ => match v4 with | .slice _ n _ => n | _ => 0)
    case atStart => exact ⟨rs, [], A0, rs.length, c0, rfl, hc0, by simp; omega, rfl, HRD.out, Below.refl _ _, TksO.nil_ _, by simp [Hid, Value.ownBlock], .nil⟩
    case round =>
    obtain ⟨x, l, A4, n4, c4, rfl, hc4, hll, HXL, HR4, HB4, HTO, HTB, HLE⟩ := hrel
    have hsz4 := HB4.out.size
    have HBW := Lib.hid (HBE0.out.trans (HB4.out.mono (Nat.le_of_lt hwl1)))
    have HBKr := Lib.hid (HBK0.out.below HB4.out hwl1)
    cases x with
    | nil =>
      obtain rfl : n4 = 0 := by have := HXL.out; simpa using this.symm
      obtain ⟨A6, c6, rfl, hc6⟩ := HTO.out.len_
      have hkinds : ∀ t ∈ l, okTk t := (HLE.out.bd HLX.out).2.1
      have HTR : Hid (∀ W, Below wr.heap.size wr W → Calls Try.prog 13 #[.slice A6 l.length c6, .int .i64 0] W (RetTree W (treeL (l.length + 2) l 0 0 [] [] false))) := fun W hW => by
        have := tree_any 11 0 rfl l A6 l.length c6 (l.length + 2) W (Nat.le_refl _) (HTO.out.rd.under hW) rfl hc6 (by omega) hkinds
        rw [if_neg (by omega)] at this
        exact this
      obtain ⟨R2, hR2⟩ : ∃ R2, treeL (l.length + 2) l 0 0 [] [] false = R2 := ⟨_, rfl⟩
      rw [hR2] at HTR
      have HR2 := Lib.hid hR2
      clear hR2 hkinds
      go_upto_region 12 with fail
      have hbl2 : Below wr.heap.size wr (wr.alloc (.cells #[.int .i64 0, .slice none 0 0, .int .i64 0, .int .i64 0, .slice none 0 0] 28)) := below_al (Below.refl _ _) _
      have hbt2 := Blk.new wr 28 #[.int .i64 0, .slice none 0 0, .int .i64 0, .int .i64 0, .slice none 0 0]
      generalize wr.alloc (.cells #[.int .i64 0, .slice none 0 0, .int .i64 0, .int .i64 0, .slice none 0 0] 28) = w2 at hbl2 hbt2 ⊢
      have HBL2 := Lib.hid hbl2
      have HBT2 := Lib.hid hbt2
      have hs2 := hbl2.size
      have hs2' := hbt2.lt
      clear hbl2 hbt2
      go_wp2_with fail
      refine (HTR.out w2 HBL2.out).mono ?_
      rintro e3 w3 ⟨hb3, hm⟩
      have hs3 := hb3.size
      have HB3 := Lib.hid (below_trans HBL2.out hb3)
      have HBT3 := Lib.hid (HBT2.out.below hb3 hs2')
      clear hb3 HTR
      cases R2 with
      | none =>
        obtain rfl := hm
        unfold zeroNd ndV
        have HR := HR2
        have hbka := HBT3.out
        have HBKa := Lib.hid hbka
        have hlwa := hbka.lt
        have ya0 := hbka.cell 0
        have ya1 := hbka.cell 1
        have ya2 := hbka.cell 2
        have ya3 := hbka.cell 3
        have ya4 := hbka.cell 4
        have za0 := hbka.frozen 0
        have za1 := hbka.frozen 1
        have za2 := hbka.frozen 2
        have za3 := hbka.frozen 3
        have za4 := hbka.frozen 4
        simp only [List.getElem?_toArray, List.getElem?_cons_succ, List.getElem?_cons_zero] at ya0 ya1 ya2 ya3 ya4
        clear hbka
        go_upto_region 14 with fail
        have hb5 := (((((HBKa.out.set_ 0 (.int .i64 0)).set_ 1 (.slice none 0 0)).set_ 2 (.int .i64 0)).set_ 3 (.int .i64 0)).set_ 4 (.slice none 0 0))
        have hB5 := (((((HB3.out.setCell (p := ⟨wr.heap.size, 0, none⟩) (Nat.le_refl _) (.int .i64 0)).setCell (p := ⟨wr.heap.size, 1, none⟩) (Nat.le_refl _) (.slice none 0 0)).setCell (p := ⟨wr.heap.size, 2, none⟩) (Nat.le_refl _) (.int .i64 0)).setCell (p := ⟨wr.heap.size, 3, none⟩) (Nat.le_refl _) (.int .i64 0)).setCell (p := ⟨wr.heap.size, 4, none⟩) (Nat.le_refl _) (.slice none 0 0))
        generalize (((((w3.setCell ⟨wr.heap.size, 0, none⟩ (.int .i64 0)).setCell ⟨wr.heap.size, 1, none⟩ (.slice none 0 0)).setCell ⟨wr.heap.size, 2, none⟩ (.int .i64 0)).setCell ⟨wr.heap.size, 3, none⟩ (.int .i64 0)).setCell ⟨wr.heap.size, 4, none⟩ (.slice none 0 0)) = w4 at hb5 hB5 ⊢
        have HB4x := Lib.hid hB5
        have HBE4 := Lib.hid (HBW.out.trans (hB5.mono (Nat.le_of_lt HBKr.out.lt)))
        have hs4 := hB5.size
        clear hb5 hB5
        clear ya0 za0 ya1 za1 ya2 za2 ya3 za3 ya4 za4
        have hbk := HBKr.out.below HB4x.out HBKr.out.lt
        have HBK := Lib.hid hbk
        have hlw := hbk.lt
        have y0 := hbk.cell 0
        have y1 := hbk.cell 1
        have y2 := hbk.cell 2
        have y3 := hbk.cell 3
        have y4 := hbk.cell 4
        have z0 := hbk.frozen 0
        have z1 := hbk.frozen 1
        have z2 := hbk.frozen 2
        have z3 := hbk.frozen 3
        have z4 := hbk.frozen 4
        simp only [List.getElem?_toArray, List.getElem?_cons_succ, List.getElem?_cons_zero] at y0 y1 y2 y3 y4
        clear hbk
        go_wp2_with fail
        have hb5 := (((((HBK.out.set_ 0 (.int .i64 0)).set_ 1 (.slice none 0 0)).set_ 2 (.int .i64 0)).set_ 3 (.int .i64 0)).set_ 4 (.slice none 0 0))
        have hB5 := (((((HBE4.out.setCell (p := ⟨w.heap.size, 0, none⟩) (Nat.le_refl _) (.int .i64 0)).setCell (p := ⟨w.heap.size, 1, none⟩) (Nat.le_refl _) (.slice none 0 0)).setCell (p := ⟨w.heap.size, 2, none⟩) (Nat.le_refl _) (.int .i64 0)).setCell (p := ⟨w.heap.size, 3, none⟩) (Nat.le_refl _) (.int .i64 0)).setCell (p := ⟨w.heap.size, 4, none⟩) (Nat.le_refl _) (.slice none 0 0))
        generalize (((((w4.setCell ⟨w.heap.size, 0, none⟩ (.int .i64 0)).setCell ⟨w.heap.size, 1, none⟩ (.slice none 0 0)).setCell ⟨w.heap.size, 2, none⟩ (.int .i64 0)).setCell ⟨w.heap.size, 3, none⟩ (.int .i64 0)).setCell ⟨w.heap.size, 4, none⟩ (.slice none 0 0)) = W5 at hb5 hB5 ⊢
        have x0 := hb5.cell 0
        have x1 := hb5.cell 1
        have x2 := hb5.cell 2
        have x3 := hb5.cell 3
        have x4 := hb5.cell 4
        simp at x0 x1 x2 x3 x4
        have HB5 := Lib.hid hB5
        clear hb5 hB5
        clear y0 z0 y1 z1 y2 z2 y3 z3 y4 z4
        try simp only [Exit.inBlock, Exit.then]
        refine bodyPost_ret (by simp [results, Try.results7, go_sem, x0, x1, x2, x3, x4]; try rfl) rfl ?_
        refine ⟨HB5.out, .inr (.inr ⟨rfl, .inr ⟨rs, l, [], HP.out, HLE.out, .inr ⟨rfl, HR.out⟩⟩⟩)⟩
      | some nd =>
        obtain ⟨v, rfl, hv⟩ := hm
        obtain ⟨x0, A1, n1, m1, x2, x3, A5, n5, m5, rfl⟩ := hv.parts
        have HV := Lib.hid hv
        clear hv
        unfold ndV
        have hbka := HBT3.out
        have HBKa := Lib.hid hbka
        have hlwa := hbka.lt
        have ya0 := hbka.cell 0
        have ya1 := hbka.cell 1
        have ya2 := hbka.cell 2
        have ya3 := hbka.cell 3
        have ya4 := hbka.cell 4
        have za0 := hbka.frozen 0
        have za1 := hbka.frozen 1
        have za2 := hbka.frozen 2
        have za3 := hbka.frozen 3
        have za4 := hbka.frozen 4
        simp only [List.getElem?_toArray, List.getElem?_cons_succ, List.getElem?_cons_zero] at ya0 ya1 ya2 ya3 ya4
        clear hbka
        go_upto_region 14 with fail
        have hS : ∀ k, w2.heap.size ≤ k → k ≠ wr.heap.size := fun k h => by omega
        have hb5 := (((((HBKa.out.set_ 0 (.int .i64 x0)).set_ 1 (.slice A1 n1 m1)).set_ 2 (.int .i64 x2)).set_ 3 (.int .i64 x3)).set_ 4 (.slice A5 n5 m5))
        have hB5 := (((((HB3.out.setCell (p := ⟨wr.heap.size, 0, none⟩) (Nat.le_refl _) (.int .i64 x0)).setCell (p := ⟨wr.heap.size, 1, none⟩) (Nat.le_refl _) (.slice A1 n1 m1)).setCell (p := ⟨wr.heap.size, 2, none⟩) (Nat.le_refl _) (.int .i64 x2)).setCell (p := ⟨wr.heap.size, 3, none⟩) (Nat.le_refl _) (.int .i64 x3)).setCell (p := ⟨wr.heap.size, 4, none⟩) (Nat.le_refl _) (.slice A5 n5 m5))
        have hV5 := (((((HV.out.store HBKa.out hS 0 (.int .i64 x0)).store (HBKa.out.set_ 0 (.int .i64 x0)) hS 1 (.slice A1 n1 m1)).store ((HBKa.out.set_ 0 (.int .i64 x0)).set_ 1 (.slice A1 n1 m1)) hS 2 (.int .i64 x2)).store (((HBKa.out.set_ 0 (.int .i64 x0)).set_ 1 (.slice A1 n1 m1)).set_ 2 (.int .i64 x2)) hS 3 (.int .i64 x3)).store ((((HBKa.out.set_ 0 (.int .i64 x0)).set_ 1 (.slice A1 n1 m1)).set_ 2 (.int .i64 x2)).set_ 3 (.int .i64 x3)) hS 4 (.slice A5 n5 m5))
        generalize (((((w3.setCell ⟨wr.heap.size, 0, none⟩ (.int .i64 x0)).setCell ⟨wr.heap.size, 1, none⟩ (.slice A1 n1 m1)).setCell ⟨wr.heap.size, 2, none⟩ (.int .i64 x2)).setCell ⟨wr.heap.size, 3, none⟩ (.int .i64 x3)).setCell ⟨wr.heap.size, 4, none⟩ (.slice A5 n5 m5)) = w4 at hb5 hB5 hV5 ⊢
        have HB4x := Lib.hid hB5
        have HBE4 := Lib.hid (HBW.out.trans (hB5.mono (Nat.le_of_lt HBKr.out.lt)))
        have HV4 := Lib.hid hV5
        have hs4 := hB5.size
        have hlb := hb5.lt
        have b0 := hb5.cell 0
        have b1 := hb5.cell 1
        have b2 := hb5.cell 2
        have b3 := hb5.cell 3
        have b4 := hb5.cell 4
        simp at b0 b1 b2 b3 b4
        clear hb5 hB5 hV5 hS
        clear ya0 za0 ya1 za1 ya2 za2 ya3 za3 ya4 za4
        have hbk := HBKr.out.below HB4x.out HBKr.out.lt
        have HBK := Lib.hid hbk
        have hlw := hbk.lt
        have y0 := hbk.cell 0
        have y1 := hbk.cell 1
        have y2 := hbk.cell 2
        have y3 := hbk.cell 3
        have y4 := hbk.cell 4
        have z0 := hbk.frozen 0
        have z1 := hbk.frozen 1
        have z2 := hbk.frozen 2
        have z3 := hbk.frozen 3
        have z4 := hbk.frozen 4
        simp only [List.getElem?_toArray, List.getElem?_cons_succ, List.getElem?_cons_zero] at y0 y1 y2 y3 y4
        clear hbk
        have hltr := HBKr.out.lt
        have hS : ∀ k, w2.heap.size ≤ k → k ≠ w.heap.size := fun k h => by omega
        have HV6 := Lib.hid ((((((HV4.out.store HBK.out hS 0 (.int .i64 x0)).store (HBK.out.set_ 0 (.int .i64 x0)) hS 1 (.slice A1 n1 m1)).store ((HBK.out.set_ 0 (.int .i64 x0)).set_ 1 (.slice A1 n1 m1)) hS 2 (.int .i64 x2)).store (((HBK.out.set_ 0 (.int .i64 x0)).set_ 1 (.slice A1 n1 m1)).set_ 2 (.int .i64 x2)) hS 3 (.int .i64 x3)).store ((((HBK.out.set_ 0 (.int .i64 x0)).set_ 1 (.slice A1 n1 m1)).set_ 2 (.int .i64 x2)).set_ 3 (.int .i64 x3)) hS 4 (.slice A5 n5 m5)))
        clear hS
        go_wp2_with fail
        have hV6 := HV6.out
        have hb5 := (((((HBK.out.set_ 0 (.int .i64 x0)).set_ 1 (.slice A1 n1 m1)).set_ 2 (.int .i64 x2)).set_ 3 (.int .i64 x3)).set_ 4 (.slice A5 n5 m5))
        have hB5 := (((((HBE4.out.setCell (p := ⟨w.heap.size, 0, none⟩) (Nat.le_refl _) (.int .i64 x0)).setCell (p := ⟨w.heap.size, 1, none⟩) (Nat.le_refl _) (.slice A1 n1 m1)).setCell (p := ⟨w.heap.size, 2, none⟩) (Nat.le_refl _) (.int .i64 x2)).setCell (p := ⟨w.heap.size, 3, none⟩) (Nat.le_refl _) (.int .i64 x3)).setCell (p := ⟨w.heap.size, 4, none⟩) (Nat.le_refl _) (.slice A5 n5 m5))
        generalize (((((w4.setCell ⟨w.heap.size, 0, none⟩ (.int .i64 x0)).setCell ⟨w.heap.size, 1, none⟩ (.slice A1 n1 m1)).setCell ⟨w.heap.size, 2, none⟩ (.int .i64 x2)).setCell ⟨w.heap.size, 3, none⟩ (.int .i64 x3)).setCell ⟨w.heap.size, 4, none⟩ (.slice A5 n5 m5)) = W5 at hb5 hB5 hV6 ⊢
        have x0 := hb5.cell 0
        have x1 := hb5.cell 1
        have x2 := hb5.cell 2
        have x3 := hb5.cell 3
        have x4 := hb5.cell 4
        simp at x0 x1 x2 x3 x4
        have HB5 := Lib.hid hB5
        have HV6x := Lib.hid hV6
        clear hV6
        clear hb5 hB5
        clear y0 z0 y1 z1 y2 z2 y3 z3 y4 z4
        try simp only [Exit.inBlock, Exit.then]
        refine bodyPost_ret (by simp [results, Try.results7, go_sem, x0, x1, x2, x3, x4]; try rfl) rfl ?_
        refine ⟨HB5.out, .inl ⟨rs, l, nd, _, HP.out, HLE.out, HR2.out, rfl, ?_⟩⟩
        exact HV6x.out.mono fun k hk _ => by omega
    | cons a x =>
      have hn4 : 0 < n4 := by have := HXL.out; simp at this; omega
      have HC := Lib.hid (fun W (hW : Below wr.heap.size wr W) => HLX.out.call (a :: x) A4 n4 c4 w1.heap.size W (by simp) ((HLE.out.bd HLX.out).2.2 HOK.out) (HR4.out.below (HB4.out.trans (hW.mono hsz4))) (by have := hW.size; omega) hc4 (by omega))
      go_wp2_with fail
      refine (HC.out wr (Below.refl _ _)).mono ?_
      rintro e2 w2 ⟨⟨t, k⟩, hpt, v, rfl, hb2, sv, rfl, hset⟩
      obtain ⟨As, cs, rfl, -, -⟩ := Own.len_ hset
      have hs2 := hb2.size
      have HB2 := Lib.hid hb2
      have HPT := Lib.hid hpt
      have hbdk := (HLX.out.bd _ _ (by simp) hpt).1
      have HKN : Hid (k ≤ n4) := by show _ ≤ _; rw [← HXL.out]; exact hbdk
      have HSET := Lib.hid hset
      have HBK2 := Lib.hid (HBKr.out.below hb2 HBKr.out.lt)
      obtain ⟨kind, r, set, mn, mx⟩ := t
      clear hb2 hpt hbdk hset HC
      simp only
      by_cases hk : k = 0
      · subst hk
        go_upto_region 7 with fail
        have hbl3 : Below w2.heap.size w2 (w2.alloc (.cells #[.int .i64 kind, .int .i64 r, .slice As set.length cs, .int .i64 mn, .int .i64 mx] 43)) := below_al (Below.refl _ _) _
        generalize w2.alloc (.cells #[.int .i64 kind, .int .i64 r, .slice As set.length cs, .int .i64 mn, .int .i64 mx] 43) = w3 at hbl3 ⊢
        have HBL3 := Lib.hid hbl3
        have HBE3 := Lib.hid (HBW.out.trans ((below_trans HB2.out hbl3).mono (by omega)))
        clear hbl3
        have hbk := HBK2.out.below HBL3.out HBK2.out.lt
        have HBK := Lib.hid hbk
        have hlw := hbk.lt
        have y0 := hbk.cell 0
        have y1 := hbk.cell 1
        have y2 := hbk.cell 2
        have y3 := hbk.cell 3
        have y4 := hbk.cell 4
        have z0 := hbk.frozen 0
        have z1 := hbk.frozen 1
        have z2 := hbk.frozen 2
        have z3 := hbk.frozen 3
        have z4 := hbk.frozen 4
        simp only [List.getElem?_toArray, List.getElem?_cons_succ, List.getElem?_cons_zero] at y0 y1 y2 y3 y4
        clear hbk
        go_wp2_with fail
        have hb5 := (((((HBK.out.set_ 0 (.int .i64 0)).set_ 1 (.slice none 0 0)).set_ 2 (.int .i64 0)).set_ 3 (.int .i64 0)).set_ 4 (.slice none 0 0))
        have hB5 := (((((HBE3.out.setCell (p := ⟨w.heap.size, 0, none⟩) (Nat.le_refl _) (.int .i64 0)).setCell (p := ⟨w.heap.size, 1, none⟩) (Nat.le_refl _) (.slice none 0 0)).setCell (p := ⟨w.heap.size, 2, none⟩) (Nat.le_refl _) (.int .i64 0)).setCell (p := ⟨w.heap.size, 3, none⟩) (Nat.le_refl _) (.int .i64 0)).setCell (p := ⟨w.heap.size, 4, none⟩) (Nat.le_refl _) (.slice none 0 0))
        generalize (((((w3.setCell ⟨w.heap.size, 0, none⟩ (.int .i64 0)).setCell ⟨w.heap.size, 1, none⟩ (.slice none 0 0)).setCell ⟨w.heap.size, 2, none⟩ (.int .i64 0)).setCell ⟨w.heap.size, 3, none⟩ (.int .i64 0)).setCell ⟨w.heap.size, 4, none⟩ (.slice none 0 0)) = W5 at hb5 hB5 ⊢
        have x0 := hb5.cell 0
        have x1 := hb5.cell 1
        have x2 := hb5.cell 2
        have x3 := hb5.cell 3
        have x4 := hb5.cell 4
        simp at x0 x1 x2 x3 x4
        have HB5 := Lib.hid hB5
        clear hb5 hB5
        clear y0 z0 y1 z1 y2 z2 y3 z3 y4 z4
        try simp only [Exit.inBlock, Exit.then]
        refine bodyPost_ret (by simp [results, Try.results7, go_sem, x0, x1, x2, x3, x4]; try rfl) rfl ?_
        refine ⟨HB5.out, .inr (.inr ⟨rfl, .inr ⟨rs, l, a :: x, HP.out, HLE.out, .inl ⟨_, by simp, HPT.out⟩⟩⟩)⟩
      · have FK : ((k : Int) == 0) = false := by simp; omega
        have hk200 : k ≤ 200 := by have := HKN.out; omega
        obtain ⟨A', c', hsl, hrd', hc', -⟩ := rd_tail (P := Try.prog) 38 Try.underlying38 (fun W => by kernel_rfl) HR4.out hc4 k HKN.out
        have HRD' : Hid (Rd w1 w1.heap.size 1 A' (n4 - k) (((a :: x).drop k).map iV)) := by
          show Rd _ _ _ _ _ _
          rw [List.map_drop, ← Nat.mul_one k]
          rw [Nat.mul_one k] at *
          simpa using hrd'
        have HLE' : Hid (Lex PT rs (l ++ [⟨kind, r, set, mn, mx⟩]) ((a :: x).drop k)) := .snoc l (a :: x) _ k HLE.out (by simp) HPT.out hk
        obtain ⟨svs, hsv1, hsv2, hsv3⟩ := HTO.out
        obtain ⟨A6, c6, rfl, hc6, -⟩ := hsv2.len_
        have HSV1 := Lib.hid hsv1
        have HSV2 := Lib.hid hsv2
        have HSV3 := Lib.hid hsv3
        have HO2 := Lib.hid (hsv2.below HB2.out fun k hk => hsv2.lt hk)
        have HC' := Lib.hid hc'
        clear hsv1 hsv2 hsv3 hrd' hc' hc6
        go_wp2_with (at_builtin; go_loud (refine wpList_append_mine _ rfl (.tmp 33) (.tmp 35) _ rfl 43 i0 _ 5 56 Try.underlying41 hi0 hz0 hz1 hz2 rfl (by omega) (.slice A6 l.length c6) l.length (tkRow l svs) rfl (by exact ((HO2.out.alloc _).alloc _)) _ 1 1 [.int .i64 kind, .int .i64 r, .slice As set.length cs, .int .i64 mn, .int .i64 mx] rfl rfl (by exact news_pushs rfl (by simp)) (by simp [Value.oneCell']) (by omega) (by simp only [maxLen]; omega) (by omega) _ rfl ?_); intro g5 o5 c5 w5 hown5 hgrow5 hat5; have HT5 := Lib.hid (tks_done (t := ⟨kind, r, set, mn, mx⟩) HSV1.out HSV2.out HSV3.out HB2.out hgrow5 hown5 HSET.out); have HB5 := Lib.hid (par_done HB4.out HB2.out hsz4 hgrow5 HTB.out); have HK5 := Lib.hid (par_far (B := w1.heap.size) (o := o5) (n := l.length + 1) (c := c5) HTB.out hat5 (by simp; omega)); clear hown5 hgrow5 hat5)
        go_roundw
        case rel => exact ⟨(a :: x).drop k, l ++ [Tk.mk kind r set mn mx], A', n4 - k, c', rfl, HC'.out, by have := HKN.out; simp; omega, by show _ = _; rw [List.length_drop, HXL.out], HRD'.out, HB5.out, HT5.out, HK5.out, HLE'.out⟩
        case measure => have := HKN.out; show n4 - k < n4; omega
end Go.Proofs.Ytgfienopijlnkaa
