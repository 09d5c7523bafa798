/-
  the contract of reedbedref09.Tree; no condition beyond those that each theorem states.
-/
import Derived.Test.YtjfkppbfckgckaaG05
import Derived.Deep.Cut
set_option linter.unusedVariables false
set_option linter.unusedSimpArgs false
namespace Go.Proofs.Ytjfkppbfckgckaa
set_option maxRecDepth 20000
open Go.RowKit Go.Rb
attribute [local irreducible] Go.wpQuiet

theorem own_ne_blk_ {w : World} {e t : TypeId} {sz n g : Nat} {v : Value} {xs : List Value} {cs : Array Value} (h : Own w e sz v n xs) (hb : Blk w g t cs) (hne : e ≠ t) : v.ownBlock ≠ some g := by
  intro hk
  rcases h.2 with ⟨rfl, _⟩ | ⟨g', off, cap, cur, rfl, hg, _⟩
  · simp [Value.ownBlock] at hk
  · have e1 : g' = g := by simpa [Value.ownBlock] using hk
    subst e1
    unfold Blk at hb
    rw [hb] at hg
    simp at hg
    exact hne hg.2.symm
/-- A store into a node's block that is no part of the tree. -/
theorem NdV.store {w : World} {S : Nat → Prop} {v : Value} {n : Nd} {g : Nat} {cs : Array Value} (h : NdV w S v n) (hb : Blk w g 52 cs) (hS : ∀ k, S k → k ≠ g) (j : Nat) (u : Value) : NdV (w.setCell ⟨g, j, none⟩ u) S v n := by
  induction h with
  | mk op mn mx set kids sv kv vs h1 h3 h4 h5 _ ih => exact .mk op mn mx set kids sv kv vs (Own.setCell h1 (own_ne_blk_ h1 hb (by decide)) u) h3 (h4.setCell (fun e => hS g (h5 g e) rfl) u) h5 ih
/-- What the loop is at behind i tokens. -/
def TG (f : Nat) (l : List Tk) (deep i : Nat) (alts pieces : List Nd) (loose : Bool) : Option Nd := if i = l.length + 1 then some (oneN 5 alts) else treeL f l deep i alts pieces loose
theorem own_onecell {w : World} {S : Nat → Prop} {ns : List Nd} {vs : List Value} (hl : vs.length = ns.length) (hv : ∀ (i : Nat) (n : Nd), ns[i]? = some n → NdV w S (vs.getD i undef) n) : ∀ u ∈ vs.flatMap cellsV, u.oneCell' = true := by
  intro u hu
  rw [List.mem_flatMap] at hu
  obtain ⟨x, hx, hux⟩ := hu
  obtain ⟨i, hi⟩ := List.mem_iff_getElem?.1 hx
  have hil := (List.getElem?_eq_some_iff.1 hi).1
  have h := hv i _ (List.getElem?_eq_getElem (by omega))
  rw [List.getD, hi] at h
  obtain ⟨a, A1, n1, m1, b, c, A4, n4, m4, e⟩ := h.parts
  simp only [Option.getD_some] at e
  subst e
  simp only [cellsV, ndV, List.mem_cons, List.not_mem_nil, or_false] at hux
  rcases hux with rfl | rfl | rfl | rfl | rfl <;> simp [Value.oneCell']
theorem closeF_bounds : ∀ (ts : List Tk) (d : Int) (i : Int), 0 ≤ i → 0 ≤ closeF ts d i → i ≤ closeF ts d i ∧ closeF ts d i < i + ts.length
  | [], d, i, _, h => by simp [closeF] at h
  | t :: ts, d, i, hi, h => by
    have step : ∀ d', 0 ≤ closeF ts d' (i + 1) → i ≤ closeF ts d' (i + 1) ∧ closeF ts d' (i + 1) < i + (t :: ts).length := fun d' h' => by
      have := closeF_bounds ts d' (i + 1) (by omega) h'
      simp only [List.length_cons]
      omega
    rw [closeF] at h ⊢
    by_cases h1 : t.kind = 1
    · rw [if_pos h1] at h ⊢
      by_cases h2 : t.r = 40
      · rw [if_pos h2] at h ⊢
        exact step _ h
      · rw [if_neg h2] at h ⊢
        by_cases h3 : t.r = 41
        · rw [if_pos h3] at h ⊢
          by_cases h4 : d - 1 = 0
          · rw [if_pos h4] at h ⊢
            simp only [List.length_cons]
            omega
          · rw [if_neg h4] at h ⊢
            exact step _ h
        · rw [if_neg h3] at h ⊢
          exact step _ h
    · rw [if_neg h1] at h ⊢
      exact step _ h
/-- A parenthesis is closed behind itself. -/
theorem close_bounds (l : List Tk) (i n : Nat) (t : Tk) (hl : l.length = n) (ht : l[i]? = some t) (h1 : t.kind = 1) (h2 : t.r = 40) : 0 ≤ closeF (l.drop i) 0 i → i + 1 ≤ (closeF (l.drop i) 0 i).toNat ∧ (closeF (l.drop i) 0 i).toNat < n := by
  intro h
  have hi := (List.getElem?_eq_some_iff.1 ht).1
  have e : l.drop i = t :: l.drop (i + 1) := by rw [List.drop_eq_getElem_cons hi, ← Option.some.inj ((List.getElem?_eq_getElem hi).symm.trans ht)]
  rw [e, closeF, if_pos h1, if_pos h2] at h ⊢
  have := closeF_bounds _ _ _ (by omega) h
  rw [List.length_drop] at this
  omega
theorem nd_far {v : Value} {g H B o n c j : Nat} (hp : ∀ k, v.ownBlock = some k → k < B) (h : v.ownBlock = some g ∨ g = H) (hB : B ≤ j) (hH : j < H) : ¬ (Value.slice (some ⟨g, o, none⟩) n c).ownBlock = some j := by
  intro e
  have e2 : g = j := by simpa [Value.ownBlock] using e
  rcases h with h | h
  · have := hp _ h
    omega
  · omega
theorem hat_of {v : Value} {g H B o n c : Nat} (h : v.ownBlock = some g ∨ g = H) (hH : B ≤ H) : (Value.slice (some ⟨g, o, none⟩) n c).ownBlock = v.ownBlock ∨ ∃ k, (Value.slice (some ⟨g, o, none⟩) n c).ownBlock = some k ∧ B ≤ k := by
  rcases h with h | h
  · exact .inl (by rw [h]; rfl)
  · exact .inr ⟨g, rfl, by omega⟩
theorem TI.sub {w wr w1 w3 : World} {av pv x : Value} {alts pieces : List Nd} {vs xs : List Value} {n : Nd} {g o cc H B0 : Nat} {c1 c2 : Obj} (h : TI w wr av pv alts pieces) (hb1 : Below wr.heap.size wr w1) (hs : wr.heap.size ≤ B0) (hB0 : B0 ≤ w1.heap.size)
    (hg : ((w1.alloc c1).alloc c2).grownBy w3 pv.ownBlock) (hl : vs.length = pieces.length) (hv : ∀ (i : Nat) (m : Nd), pieces[i]? = some m → NdV wr (SS w.heap.size av pv) (vs.getD i undef) m) (hP : Own wr 52 5 pv pieces.length (vs.flatMap cellsV))
    (hO : Own w3 52 5 (.slice (some ⟨g, o, none⟩) (pieces.length + 1) cc) (pieces.length + 1) (vs.flatMap cellsV ++ xs)) (hxs : xs = cellsV x) (hat : pv.ownBlock = some g ∨ g = H) (hH : H = w1.heap.size + 2)
    (hx : NdV w1 (fun k => B0 ≤ k) x n) : TI w w3 av (.slice (some ⟨g, o, none⟩) (pieces.length + 1) cc) alts (pieces ++ [n]) := by
  subst hxs
  have hb2 : Below wr.heap.size wr ((w1.alloc c1).alloc c2) := (hb1.alloc hb1.size _).alloc (by have := hb1.size; simp; omega) _
  refine TI.piece h hb2 hg hl hv hP hO (hat_of hat (by omega)) ?_
  refine (hx.mono (T := fun j => wr.heap.size ≤ j ∧ (Value.slice (some ⟨g, o, none⟩) (pieces.length + 1) cc).ownBlock ≠ some j) fun j hj hjl => ⟨by omega, fun e => ?_⟩).under ((below_al (Below.refl _ _) _).alloc (by simp) _)
  exact nd_far (fun k hk => hP.lt hk) hat (by omega) (by omega) e
set_option maxRecDepth 20000 in
set_option maxHeartbeats 4000000 in
theorem tree_step (l : List Tk) (deep f : Nat) (A : Option Addr) (n c : Nat) (w : World) (hd : deep ≤ 10) (hf : n + 2 ≤ f) (hr : TksR w A l) (hl : l.length = n) (hc : n ≤ c) (hn : n ≤ 200)
    (hk : ∀ t ∈ l, t.kind = 0 ∨ t.kind = 2 ∨ (t.kind = 1 ∧ (t.r = 124 ∨ t.r = 40 ∨ t.r = 41 ∨ t.r = 94 ∨ t.r = 36)))
    (hih : ∀ (l' : List Tk) (A' : Option Addr) (n' c' f' : Nat) (w' : World), n' + 2 ≤ f' → TksR w' A' l' → l'.length = n' → n' ≤ c' → n' ≤ 200 → (∀ t ∈ l', t.kind = 0 ∨ t.kind = 2 ∨ (t.kind = 1 ∧ (t.r = 124 ∨ t.r = 40 ∨ t.r = 41 ∨ t.r = 94 ∨ t.r = 36))) →
      Calls Try.prog 37 #[.slice A' n' c', .int .i64 ((deep : Int) + 1)] w' (RetTree w' (if deep + 1 > 10 then none else treeL f' l' (deep + 1) 0 [] [] false))) :
    Calls Try.prog 37 #[.slice A n c, .int .i64 (deep : Int)] w (RetTree w (treeL f l deep 0 [] [] false)) := by
  obtain ⟨i0, hi0, hz0, hz1, hz2⟩ := info_parts infoN
  obtain ⟨R, hR⟩ : ∃ R, treeL f l deep 0 [] [] false = R := ⟨_, rfl⟩
  rw [hR]
  have hd' : ¬ (10 : Int) < (deep : Int) := by omega
  have HS : Hid (TG f l deep 0 [] [] false = R) := by
    show _ = _
    rw [TG, if_neg (by omega)]
    exact hR
  have HT := Lib.hid hr
  have HL := Lib.hid hl
  have HK := Lib.hid hk
  have HIH := Lib.hid hih
  clear hR hr hl hk hih
  go_enter Try.func37, Try.ntmps37
  go_wp2_with fail
  go_loopw [6, 7, 8, 9] (fun av pv lv iv wr => ∃ (i : Nat) (alts pieces : List Nd) (loose : Bool) (f1 : Nat), lv = .bool loose ∧ iv = .int .i64 (i : Int) ∧ i ≤ n + 1 ∧ alts.length ≤ i ∧ pieces.length ≤ i ∧ Hid (n + 2 ≤ f1 + i) ∧ Hid (loose = true → pieces ≠ []) ∧ Hid (TI w wr av pv alts pieces) ∧ Hid (TG f1 l deep i alts pieces loose = R)) (fun _ _ _ iv _ => n + 1 - (intOf iv).toNat)
  case atStart => exact ⟨0, [], [], false, f, rfl, rfl, by omega, by simp, by simp, hf, (fun h => by simp at h), ⟨NdsO.nil_ _ _, NdsO.nil_ _ _, by simp [Value.ownBlock], by simp [Value.ownBlock], by simp [Value.ownBlock], Blk.new _ _ _, below_al (Below.refl _ _) _⟩, HS.out⟩
  case round =>
  obtain ⟨i, alts, pieces, loose, f1, rfl, rfl, hin, hla, hlp, HF, HLO, HI, HG⟩ := hrel
  by_cases hend : i = n + 1
  · subst hend
    have hR : Hid (R = some (oneN 5 alts)) := by
      show _ = _
      rw [← HG.out, TG, if_pos (by rw [HL.out])]
    obtain ⟨Aa, ca, rfl, hca⟩ := HI.out.a.len_
    have HO := Lib.hid (fun W (hW : Below wr.heap.size wr W) => one_any 5 (HI.out.a.under hW) (T := fun k => w.heap.size < k) (fun k hk => hk.1) (fun k hk => HI.out.ab k hk))
    go_wp2_with fail
    refine (HO.out wr (Below.refl _ _)).mono ?_
    rintro e1 w1 ⟨v, rfl, hb1, hv⟩
    obtain ⟨a, A1, n1, m1, b, d, A4, n4, m4, rfl⟩ := hv.parts
    have hbk := HI.out.blk.below hb1 HI.out.blk.lt
    have HB1 := Lib.hid (HI.out.below.trans (hb1.mono HI.out.below.size))
    have HV := Lib.hid hv
    have HBK := Lib.hid hbk
    have hgl := hbk.lt
    have y0 := hbk.cell 0
    have y1 := hbk.cell 1
    have y2 := hbk.cell 2
    have y3 := hbk.cell 3
    have y4 := hbk.cell 4
    have z0 := hbk.frozen 0
    have z1 := hbk.frozen 1
    have z2 := hbk.frozen 2
    have z3 := hbk.frozen 3
    have z4 := hbk.frozen 4
    simp only [List.getElem?_toArray, List.getElem?_cons_succ, List.getElem?_cons_zero] at y0 y1 y2 y3 y4
    clear hb1 hv hbk HO HG hin hla hlp
    unfold ndV
    go_wp2_with fail
    have hS : ∀ k, w.heap.size < k → k ≠ w.heap.size := fun k h => by omega
    have hb5 := ((((HBK.out.set_ 0 (.int .i64 a)).set_ 1 (.slice A1 n1 m1)).set_ 2 (.int .i64 b)).set_ 3 (.int .i64 d)).set_ 4 (.slice A4 n4 m4)
    have hB5 := ((((HB1.out.setCell (p := ⟨w.heap.size, 0, none⟩) (Nat.le_refl _) (.int .i64 a)).setCell (p := ⟨w.heap.size, 1, none⟩) (Nat.le_refl _) (.slice A1 n1 m1)).setCell (p := ⟨w.heap.size, 2, none⟩) (Nat.le_refl _) (.int .i64 b)).setCell (p := ⟨w.heap.size, 3, none⟩) (Nat.le_refl _) (.int .i64 d)).setCell (p := ⟨w.heap.size, 4, none⟩) (Nat.le_refl _) (.slice A4 n4 m4)
    have hV5 := ((((HV.out.store HBK.out hS 0 (.int .i64 a)).store (HBK.out.set_ 0 (.int .i64 a)) hS 1 (.slice A1 n1 m1)).store ((HBK.out.set_ 0 (.int .i64 a)).set_ 1 (.slice A1 n1 m1)) hS 2 (.int .i64 b)).store (((HBK.out.set_ 0 (.int .i64 a)).set_ 1 (.slice A1 n1 m1)).set_ 2 (.int .i64 b)) hS 3 (.int .i64 d)).store ((((HBK.out.set_ 0 (.int .i64 a)).set_ 1 (.slice A1 n1 m1)).set_ 2 (.int .i64 b)).set_ 3 (.int .i64 d)) hS 4 (.slice A4 n4 m4)
    generalize ((((w1.setCell ⟨w.heap.size, 0, none⟩ (.int .i64 a)).setCell ⟨w.heap.size, 1, none⟩ (.slice A1 n1 m1)).setCell ⟨w.heap.size, 2, none⟩ (.int .i64 b)).setCell ⟨w.heap.size, 3, none⟩ (.int .i64 d)).setCell ⟨w.heap.size, 4, none⟩ (.slice A4 n4 m4) = W5 at hb5 hB5 hV5 ⊢
    have x0 := hb5.cell 0
    have x1 := hb5.cell 1
    have x2 := hb5.cell 2
    have x3 := hb5.cell 3
    have x4 := hb5.cell 4
    simp at x0 x1 x2 x3 x4
    have HB5 := Lib.hid hB5
    have HV5 := Lib.hid hV5
    clear hb5 hB5 hV5 hS y0 y1 y2 y3 y4 z0 z1 z2 z3 z4
    try simp only [Exit.inBlock, Exit.then]
    refine bodyPost_ret (by simp [results, Try.results37, go_sem, x0, x1, x2, x3, x4]; try rfl) rfl ?_
    refine ⟨HB5.out, ?_⟩
    rw [hR.out]
    exact ⟨_, rfl, HV5.out.mono fun k hk _ => Nat.le_of_lt hk⟩
  obtain ⟨f2, rfl⟩ : ∃ f2, f1 = f2 + 1 := ⟨f1 - 1, by have := HF.out; omega⟩
  have HG2 : Hid (treeL (f2 + 1) l deep i alts pieces loose = R) := by
    have := HG.out
    rw [TG, if_neg (by rw [HL.out]; omega)] at this
    exact this
  clear HG
  have HB := Lib.hid HI.out.below
  have hlt := HI.out.blk.lt
  by_cases hin' : i = n
  · subst hin'
    have HR : Hid (TG f2 l deep (i + 1) (alts ++ [oneN 4 pieces]) [] false = R) := by
      show _ = _
      rw [← HG2.out, TG, if_pos (by rw [HL.out]), treeL, List.getElem?_eq_none (by rw [HL.out]; omega)]
    clear HG2
    obtain ⟨Aa, ca, rfl, hca⟩ := HI.out.a.len_
    obtain ⟨Ap, cp, rfl, hcp⟩ := HI.out.p.len_
    have HO := Lib.hid (fun W (hW : Below wr.heap.size wr W) => one_any 4 ((HI.out.p.mono (T := fun k => SS w.heap.size (.slice Aa alts.length ca) (.slice Ap pieces.length cp) k ∧ k < wr.heap.size) fun k h1 h2 => ⟨h1, h2⟩).under hW) (T := fun k => SS w.heap.size (.slice Aa alts.length ca) (.slice Ap pieces.length cp) k ∧ k < wr.heap.size ∨ (Value.slice Ap pieces.length cp).ownBlock = some k) (fun k hk => .inl hk) (fun k hk => .inr hk))
    go_wp2_with fail
    refine (HO.out wr (Below.refl _ _)).mono ?_
    rintro e1 w1 ⟨v, rfl, hb1, hv⟩
    obtain ⟨x0, A1, n1, m1, x2, x3, A4, n4, m4, rfl⟩ := hv.parts
    have hal := HI.out.a
    obtain ⟨vs, hvl, hA, hvn⟩ := hal
    have Ha := Lib.hid (hA.below hb1 fun k hk => hA.lt hk)
    have HA0 := Lib.hid hA
    have HVN := Lib.hid hvn
    have HVL := Lib.hid hvl
    have HV := Lib.hid hv
    have HB1 := Lib.hid hb1
    have hg1 := hb1.size
    clear hA hvn hvl hv hb1 HO hca hcp
    unfold ndV
    go_wp2_with (at_builtin; refine wpList_append_mine _ rfl (.tmp 45) (.tmp 48) _ rfl 52 i0 _ 5 72 Try.underlying50 hi0 hz0 hz1 hz2 rfl (by omega) (.slice Aa alts.length ca) alts.length (vs.flatMap cellsV) rfl (by exact Ha.out.alloc _) _ 1 1 [.int .i64 x0, .slice A1 n1 m1, .int .i64 x2, .int .i64 x3, .slice A4 n4 m4] rfl rfl (by exact news_pushs rfl rfl) (by simp [Value.oneCell']) (by omega) (by simp only [maxLen]; omega) (by omega) _ rfl ?_; intro g5 o5 c5 w5 hown5 hgrow5 hat5; have HT5 := Lib.hid (TI.alt HI.out (HB1.out.alloc HB1.out.size _) hgrow5 HVL.out HVN.out HA0.out hown5 (hat_of hat5 (by simp; omega)) (HV.out.under (below_al (Below.refl _ _) _))); clear hown5 hgrow5 hat5)
    go_roundw
    case rel => exact ⟨i + 1, alts ++ [oneN 4 pieces], [], false, f2, rfl, by go_num, by omega, by simp; omega, by simp, by show _ ≤ _; have := HF.out; omega, fun h => by simp at h, HT5.out, HR.out⟩
    case measure => simp [intOf] <;> omega
  have hlti : i < n := by omega
  have hcl : i < l.length := by rw [HL.out]; exact hlti
  obtain ⟨t, ht⟩ : ∃ t, l[i]? = some t := ⟨_, List.getElem?_eq_getElem hcl⟩
  have hkt := HK.out t (List.mem_of_getElem? ht)
  obtain ⟨b, off, rfl, hb, hat⟩ := (HT.out.under HI.out.below) (fun e => by rw [e] at hcl; simp at hcl)
  obtain ⟨sv, c0, c1, c2, c3, c4, hset⟩ := hat i t ht
  have HHT := Lib.hid ht
  obtain ⟨As, cs, rfl, -, -⟩ := Own.len_ hset
  have Fin : ((i : Int) == (n : Int)) = false := by simp; omega
  obtain ⟨kind, r, set, mn, mx⟩ := t
  simp only at c0 c1 c2 c3 c4 hset hkt
  have HSET := Lib.hid hset
  have HKT := Lib.hid hkt
  have hhb : b ≠ w.heap.size := by
    have hbw := (HT.out (fun e => by rw [e] at hcl; simp at hcl))
    obtain ⟨b', off', e, hb', -⟩ := hbw
    simp only [Option.some.injEq, Addr.mk.injEq, and_true] at e
    omega
  clear hat ht hcl hset hkt hend hin'
  have hTG : ∀ {a p lo j}, j ≤ n → treeL f2 l deep j a p lo = R → TG f2 l deep j a p lo = R := fun hj h => by
    rw [TG, if_neg (by rw [HL.out]; omega)]
    exact h
  by_cases hbar : kind = 1 ∧ r = 124
  · obtain ⟨rfl, rfl⟩ := hbar
    have HR : Hid (TG f2 l deep (i + 1) (alts ++ [oneN 4 pieces]) [] false = R) := by
      refine hTG hlti ?_
      rw [← HG2.out, treeL, HHT.out]
      rfl
    clear HG2 hTG
    obtain ⟨Aa, ca, rfl, hca⟩ := HI.out.a.len_
    obtain ⟨Ap, cp, rfl, hcp⟩ := HI.out.p.len_
    have HO := Lib.hid (fun W (hW : Below wr.heap.size wr W) => one_any 4 ((HI.out.p.mono (T := fun k => SS w.heap.size (.slice Aa alts.length ca) (.slice Ap pieces.length cp) k ∧ k < wr.heap.size) fun k h1 h2 => ⟨h1, h2⟩).under hW) (T := fun k => SS w.heap.size (.slice Aa alts.length ca) (.slice Ap pieces.length cp) k ∧ k < wr.heap.size ∨ (Value.slice Ap pieces.length cp).ownBlock = some k) (fun k hk => .inl hk) (fun k hk => .inr hk))
    go_wp2_with fail
    refine (HO.out wr (Below.refl _ _)).mono ?_
    rintro e1 w1 ⟨v, rfl, hb1, hv⟩
    obtain ⟨x0, A1, n1, m1, x2, x3, A4, n4, m4, rfl⟩ := hv.parts
    have hal := HI.out.a
    obtain ⟨vs, hvl, hA, hvn⟩ := hal
    have Ha := Lib.hid (hA.below hb1 fun k hk => hA.lt hk)
    have HA0 := Lib.hid hA
    have HVN := Lib.hid hvn
    have HVL := Lib.hid hvl
    have HV := Lib.hid hv
    have HB1 := Lib.hid hb1
    have hg1 := hb1.size
    clear hA hvn hvl hv hb1 HO hca hcp
    unfold ndV
    go_wp2_with (at_builtin; refine wpList_append_mine _ rfl (.tmp 45) (.tmp 48) _ rfl 52 i0 _ 5 72 Try.underlying50 hi0 hz0 hz1 hz2 rfl (by omega) (.slice Aa alts.length ca) alts.length (vs.flatMap cellsV) rfl (by exact Ha.out.alloc _) _ 1 1 [.int .i64 x0, .slice A1 n1 m1, .int .i64 x2, .int .i64 x3, .slice A4 n4 m4] rfl rfl (by exact news_pushs rfl rfl) (by simp [Value.oneCell']) (by omega) (by simp only [maxLen]; omega) (by omega) _ rfl ?_; intro g5 o5 c5 w5 hown5 hgrow5 hat5; have HT5 := Lib.hid (TI.alt HI.out (HB1.out.alloc HB1.out.size _) hgrow5 HVL.out HVN.out HA0.out hown5 (hat_of hat5 (by simp; omega)) (HV.out.under (below_al (Below.refl _ _) _))); clear hown5 hgrow5 hat5)
    go_roundw
    case rel => exact ⟨i + 1, alts ++ [oneN 4 pieces], [], false, f2, rfl, by go_num, by omega, by simp; omega, by simp, by show _ ≤ _; have := HF.out; omega, fun h => by simp at h, HT5.out, HR.out⟩
    case measure => simp [intOf] <;> omega
  obtain ⟨Aa, ca, rfl, hca⟩ := HI.out.a.len_
  obtain ⟨Ap, cp, rfl, hcp⟩ := HI.out.p.len_
  have HCA := Lib.hid hca
  have HCP := Lib.hid hcp
  clear hca hcp
  by_cases hk0 : kind = 0
  · subst hk0
    have HR : Hid (TG f2 l deep (i + 1) alts (pieces ++ [.mk 1 set 0 0 []]) true = R) := by
      refine hTG hlti ?_
      rw [← HG2.out, treeL, HHT.out]
      rfl
    clear HG2 hTG hbar
    obtain ⟨ps, hpl, hP, hpn⟩ := HI.out.p
    have HPL := Lib.hid hpl
    have HPO := Lib.hid hP
    have HPN := Lib.hid hpn
    clear hpl hP hpn
    go_wp2_with (at_builtin; refine wpList_append_mine _ rfl (.tmp 84) (.tmp 88) _ rfl 52 i0 _ 5 72 Try.underlying50 hi0 hz0 hz1 hz2 rfl (by omega) (.slice Ap pieces.length cp) pieces.length (ps.flatMap cellsV) rfl (by exact ((HPO.out.alloc _).alloc _)) _ 1 1 [.int .i64 1, .slice As set.length cs, .int .i64 0, .int .i64 0, .slice none 0 0] rfl rfl (by exact news_pushs rfl (by simp)) (by simp [Value.oneCell']) (by omega) (by simp only [maxLen]; omega) (by omega) _ rfl ?_; intro g5 o5 c5 w5 hown5 hgrow5 hat5; have HT5 := Lib.hid (TI.piece HI.out ((below_al (Below.refl wr.heap.size wr) _).alloc (by simp) _) hgrow5 HPL.out HPN.out HPO.out hown5 (hat_of hat5 (by simp; omega)) (.mk 1 0 0 set [] _ _ [] ((HSET.out.below (below_al (Below.refl _ _) _)).below (below_al (Below.refl _ _) _)) rfl (Own.nil_ _ _ _) (by simp [Value.ownBlock]) (fun j h => absurd h (by simp)))); clear hown5 hgrow5 hat5)
    go_roundw
    case rel => exact ⟨i + 1, alts, pieces ++ [Nd.mk 1 set 0 0 []], true, f2, rfl, by go_num, by omega, by omega, by simp; omega, by show _ ≤ _; have := HF.out; omega, fun _ => by simp, HT5.out, HR.out⟩
    case measure => simp [intOf] <;> omega
  by_cases hk2 : kind = 2
  · subst hk2
    by_cases hlo : loose = false
    · subst hlo
      have HR : Hid (R = none) := by
        show _ = _
        rw [← HG2.out, treeL, HHT.out]
        rfl
      clear HG2 hTG hbar hk0
      go_upto_region 14 with fail
      have hbl0 : Below wr.heap.size wr (wr.alloc (.cells #[.int .i64 2, .int .i64 r, .slice As set.length cs, .int .i64 mn, .int .i64 mx] 74)) := below_al (Below.refl _ _) _
      have hbt0 := Blk.new wr 74 #[.int .i64 2, .int .i64 r, .slice As set.length cs, .int .i64 mn, .int .i64 mx]
      generalize wr.alloc (.cells #[.int .i64 2, .int .i64 r, .slice As set.length cs, .int .i64 mn, .int .i64 mx] 74) = w0 at hbl0 hbt0 ⊢
      have HBL0 := Lib.hid hbl0
      have HBT0 := Lib.hid hbt0
      have hs0 : wr.heap.size < w0.heap.size := hbt0.lt
      have u0 := hbt0.cell 0
      have u1 := hbt0.cell 1
      have u2 := hbt0.cell 2
      have u3 := hbt0.cell 3
      have u4 := hbt0.cell 4
      simp only [List.getElem?_toArray, List.getElem?_cons_succ, List.getElem?_cons_zero] at u0 u1 u2 u3 u4
      have HC := Lib.hid (And.intro c0 (And.intro c1 (And.intro c2 (And.intro c3 c4))))
      clear hbl0 hbt0 c0 c1 c2 c3 c4
      have hbk := HI.out.blk.below HBL0.out HI.out.blk.lt
      have hbe := HB.out.trans (HBL0.out.mono (Nat.le_of_lt hlt))
      have hlw := hbk.lt
      have HBK := Lib.hid hbk
      have HBE := Lib.hid hbe
      have y0 := hbk.cell 0
      have y1 := hbk.cell 1
      have y2 := hbk.cell 2
      have y3 := hbk.cell 3
      have y4 := hbk.cell 4
      have z0 := hbk.frozen 0
      have z1 := hbk.frozen 1
      have z2 := hbk.frozen 2
      have z3 := hbk.frozen 3
      have z4 := hbk.frozen 4
      simp only [List.getElem?_toArray, List.getElem?_cons_succ, List.getElem?_cons_zero] at y0 y1 y2 y3 y4
      clear hbk hbe
      go_wp2_with fail
      have hb5 := ((((HBK.out.set_ 0 (.int .i64 0)).set_ 1 (.slice none 0 0)).set_ 2 (.int .i64 0)).set_ 3 (.int .i64 0)).set_ 4 (.slice none 0 0)
      have hB5 := ((((HBE.out.setCell (p := ⟨w.heap.size, 0, none⟩) (Nat.le_refl _) (.int .i64 0)).setCell (p := ⟨w.heap.size, 1, none⟩) (Nat.le_refl _) (.slice none 0 0)).setCell (p := ⟨w.heap.size, 2, none⟩) (Nat.le_refl _) (.int .i64 0)).setCell (p := ⟨w.heap.size, 3, none⟩) (Nat.le_refl _) (.int .i64 0)).setCell (p := ⟨w.heap.size, 4, none⟩) (Nat.le_refl _) (.slice none 0 0)
      generalize ((((w0.setCell ⟨w.heap.size, 0, none⟩ (.int .i64 0)).setCell ⟨w.heap.size, 1, none⟩ (.slice none 0 0)).setCell ⟨w.heap.size, 2, none⟩ (.int .i64 0)).setCell ⟨w.heap.size, 3, none⟩ (.int .i64 0)).setCell ⟨w.heap.size, 4, none⟩ (.slice none 0 0) = W5 at hb5 hB5 ⊢
      have x0 := hb5.cell 0
      have x1 := hb5.cell 1
      have x2 := hb5.cell 2
      have x3 := hb5.cell 3
      have x4 := hb5.cell 4
      simp at x0 x1 x2 x3 x4
      have HB5 := Lib.hid hB5
      clear hb5 hB5 y0 y1 y2 y3 y4 z0 z1 z2 z3 z4
      try simp only [Exit.inBlock, Exit.then]
      refine bodyPost_ret (by simp [results, Try.results37, go_sem, x0, x1, x2, x3, x4]; try rfl) rfl ?_
      refine ⟨HB5.out, ?_⟩
      rw [HR.out]
      rfl
    · skip
      obtain rfl : loose = true := by simpa using hlo
      have hne := HLO.out rfl
      obtain ⟨m, hm⟩ : ∃ m, pieces.length = m + 1 := ⟨pieces.length - 1, by have := List.length_pos_iff.2 hne; omega⟩
      obtain ⟨kid, hkid⟩ : ∃ kid, pieces[m]? = some kid := ⟨_, List.getElem?_eq_getElem (by omega)⟩
      have HR : Hid (TG f2 l deep (i + 1) alts (pieces.dropLast ++ [.mk 6 [] mn mx [kid]]) false = R) := by
        refine hTG hlti ?_
        rw [← HG2.out, treeL, HHT.out]
        have hl : pieces.getLast? = some kid := by rw [List.getLast?_eq_getElem?, hm]; exact hkid
        simp [hl]
      clear HG2 hTG hbar hk0 hlo hne
      obtain ⟨ps, hpl, hP, hpn⟩ := HI.out.p
      have hkv := hpn m kid hkid
      obtain ⟨x0, A1, n1, m1, x2, x3, A4, n4, m4, hke⟩ := hkv.parts
      have hxs := ps_parts (hpl.trans hm) (by rw [hP.1, hm]) hke rfl
      obtain ⟨bp, offp, rfl, hbp, hcells⟩ := hP.rd.2 (by omega)
      have hd : ∀ j, j < 5 → wr.cell? ⟨bp, offp + m * 5 + j, none⟩ = (cellsV (ndV x0 (.slice A1 n1 m1) x2 x3 (.slice A4 n4 m4)))[j]? := fun j hj => by
        rw [Nat.add_assoc, hcells (m * 5 + j) (by rw [hm]; omega), hxs.1, List.getElem?_append_right (by rw [hxs.2]; omega), hxs.2]
        congr 1
        omega
      have HONE : Hid (∀ u ∈ (ps.take m).flatMap cellsV, u.oneCell' = true) := fun u hu => own_onecell hpl hpn u (by rw [hxs.1]; exact List.mem_append_left _ hu)
      have hrd0 := hP.rd.take_ (k := m) (by omega)
      rw [hxs.1, List.take_left' hxs.2] at hrd0
      have HRD0 := Lib.hid hrd0
      have HPL := Lib.hid hpl
      have HPO := Lib.hid hP
      have HPN := Lib.hid hpn
      have HM := Lib.hid hm
      have HKE := Lib.hid hke
      have HKID := Lib.hid hkid
      have HD := Lib.hid hd
      have hip : m + 1 ≤ i := by omega
      have hcpm : m + 1 ≤ cp := by have := HCP.out; omega
      rw [hm]
      clear hpl hpn hP hrd0 hcells hkv hke hxs hm hkid hd
      go_upto_region 14 with fail
      have hbl0 : Below wr.heap.size wr (wr.alloc (.cells #[.int .i64 2, .int .i64 r, .slice As set.length cs, .int .i64 mn, .int .i64 mx] 74)) := below_al (Below.refl _ _) _
      have hbt0 := Blk.new wr 74 #[.int .i64 2, .int .i64 r, .slice As set.length cs, .int .i64 mn, .int .i64 mx]
      generalize wr.alloc (.cells #[.int .i64 2, .int .i64 r, .slice As set.length cs, .int .i64 mn, .int .i64 mx] 74) = w0 at hbl0 hbt0 ⊢
      have HBL0 := Lib.hid hbl0
      have HBT0 := Lib.hid hbt0
      have hs0 : wr.heap.size < w0.heap.size := hbt0.lt
      have u0 := hbt0.cell 0
      have u1 := hbt0.cell 1
      have u2 := hbt0.cell 2
      have u3 := hbt0.cell 3
      have u4 := hbt0.cell 4
      simp only [List.getElem?_toArray, List.getElem?_cons_succ, List.getElem?_cons_zero] at u0 u1 u2 u3 u4
      have HC := Lib.hid (And.intro c0 (And.intro c1 (And.intro c2 (And.intro c3 c4))))
      clear hbl0 hbt0 c0 c1 c2 c3 c4
      have d0 := (HBL0.out.cell (p := ⟨bp, offp + m * 5, none⟩) hbp).trans (HD.out 0 (by omega))
      have d1 := (HBL0.out.cell (p := ⟨bp, offp + m * 5 + 1, none⟩) hbp).trans (HD.out 1 (by omega))
      have d2 := (HBL0.out.cell (p := ⟨bp, offp + m * 5 + 2, none⟩) hbp).trans (HD.out 2 (by omega))
      have d3 := (HBL0.out.cell (p := ⟨bp, offp + m * 5 + 3, none⟩) hbp).trans (HD.out 3 (by omega))
      have d4 := (HBL0.out.cell (p := ⟨bp, offp + m * 5 + 4, none⟩) hbp).trans (HD.out 4 (by omega))
      simp only [cellsV, ndV, List.getElem?_cons_succ, List.getElem?_cons_zero] at d0 d1 d2 d3 d4
      go_upto_region 19 with fail
      have hblk : Below w0.heap.size w0 (w0.alloc (.cells #[.int .i64 x0, .slice A1 n1 m1, .int .i64 x2, .int .i64 x3, .slice A4 n4 m4] 52)) := below_al (Below.refl _ _) _
      have hbtk := Blk.new w0 52 #[.int .i64 x0, .slice A1 n1 m1, .int .i64 x2, .int .i64 x3, .slice A4 n4 m4]
      have hbto := HBT0.out.alloc (.cells #[.int .i64 x0, .slice A1 n1 m1, .int .i64 x2, .int .i64 x3, .slice A4 n4 m4] 52)
      generalize w0.alloc (.cells #[.int .i64 x0, .slice A1 n1 m1, .int .i64 x2, .int .i64 x3, .slice A4 n4 m4] 52) = wk at hblk hbtk hbto ⊢
      have HBLK := Lib.hid (below_trans HBL0.out hblk)
      have hltk2 : w0.heap.size < wk.drew.heap.size := hbtk.lt
      have hltk : wr.heap.size < wk.drew.heap.size := by omega
      have k0 : wk.drew.cell? ⟨w0.heap.size, 0, none⟩ = _ := hbtk.cell 0
      have k1 : wk.drew.cell? ⟨w0.heap.size, 1, none⟩ = _ := hbtk.cell 1
      have k2 : wk.drew.cell? ⟨w0.heap.size, 2, none⟩ = _ := hbtk.cell 2
      have k3 : wk.drew.cell? ⟨w0.heap.size, 3, none⟩ = _ := hbtk.cell 3
      have k4 : wk.drew.cell? ⟨w0.heap.size, 4, none⟩ = _ := hbtk.cell 4
      have v3 : wk.drew.cell? ⟨wr.heap.size, 3, none⟩ = _ := hbto.cell 3
      have v4 : wk.drew.cell? ⟨wr.heap.size, 4, none⟩ = _ := hbto.cell 4
      simp only [List.getElem?_toArray, List.getElem?_cons_succ, List.getElem?_cons_zero] at k0 k1 k2 k3 k4 v3 v4
      have HRD : Hid (∀ W, Below wk.drew.heap.size wk.drew W → Rd W wr.heap.size 5 (some ⟨bp, offp, none⟩) m ((ps.take m).flatMap cellsV)) := fun W hW => HRD0.out.below (HBLK.out.trans ((Below.refl _ wk).drew.trans (hW.mono (by omega))))
      clear hblk hbtk hbto d0 d1 d2 d3 d4 u0 u1 u2 u3 u4
      refine region_tail 13 (by kernel_rfl) (by kernel_rfl) (fun W W' => Below W.heap.size W W')
        [emptyRow wr.heap.size,
         .val (.slice (some ⟨bp, offp, none⟩) (m + 1) cp),
         .val (.int .i64 (m : Int)),
         .val (.slice (some ⟨bp, offp, none⟩) m cp),
         midRow wr.heap.size m ((ps.take m).flatMap cellsV),
         .val (.pointer (some ⟨wr.heap.size, 3, none⟩)),
         .val (.int .i64 mn),
         .val (.pointer (some ⟨wr.heap.size, 4, none⟩)),
         .val (.int .i64 mx),
         .val (.agg #[.int .i64 x0, .slice A1 n1 m1, .int .i64 x2, .int .i64 x3, .slice A4 n4 m4]),
         kidRow wr.heap.size #[.int .i64 x0, .slice A1 n1 m1, .int .i64 x2, .int .i64 x3, .slice A4 n4 m4],
         cntRow wr.heap.size mn mx #[.int .i64 x0, .slice A1 n1 m1, .int .i64 x2, .int .i64 x3, .slice A4 n4 m4],
         newRow wr.heap.size mn mx #[.int .i64 x0, .slice A1 n1 m1, .int .i64 x2, .int .i64 x3, .slice A4 n4 m4]]
        (fun W => Below.refl _ W) (fun _ _ _ h k => below_trans h k) (by kernel_rfl) ?_ ?_
      · refine ⟨?_, ?_, ?_, ?_, ?_, ?_, ?_, ?_, ?_, ?_, ?_, ?_, ?_, trivial⟩
        · intro ra RW hR hk hd K hK
          clear hk hd
          have HR := Lib.hid hR
          clear hR
          go_simp
          exact hK _ _ (below_al (Below.refl _ _) _) (emptyRow_mk _ (Nat.le_trans (Nat.le_of_lt hltk) HR.out.size))
        · intro ra RW hR hk hd K hK
          obtain ⟨e7, g7⟩ := hk 7 (.slice (some ⟨bp, offp, none⟩) (m + 1) cp) (by kernel_rfl) rfl
          clear hk hd
          have HR := Lib.hid hR
          clear hR
          go_simp
          exact hK _ _ (Below.refl _ _) rfl
        · intro ra RW hR hk hd K hK
          obtain ⟨e11, g11⟩ := hk 11 (.int .i64 (m : Int)) (by kernel_rfl) rfl
          clear hk hd
          have HR := Lib.hid hR
          clear hR
          go_simp
          exact hK _ _ (Below.refl _ _) rfl
        · intro ra RW hR hk hd K hK
          obtain ⟨v68, e68, g68, f68⟩ := hd 1 68 (by kernel_rfl) rfl
          have f68 : v68 = .slice (some ⟨bp, offp, none⟩) (m + 1) cp := f68
          subst f68
          obtain ⟨v69, e69, g69, f69⟩ := hd 2 69 (by kernel_rfl) rfl
          have f69 : v69 = .int .i64 (m : Int) := f69
          subst f69
          clear hk hd
          have HR := Lib.hid hR
          clear hR
          go_simp
          rw [if_pos (by omega)]
          go_simp
          exact hK _ _ (Below.refl _ _) rfl
        · intro ra RW hR hk hd K hK
          obtain ⟨v67, e67, g67, f67⟩ := hd 0 67 (by kernel_rfl) rfl
          have F67 := Lib.hid f67
          clear f67
          obtain ⟨v70, e70, g70, f70⟩ := hd 3 70 (by kernel_rfl) rfl
          have f70 : v70 = .slice (some ⟨bp, offp, none⟩) m cp := f70
          subst f70
          clear hk hd
          have HR := Lib.hid hR
          clear hR
          obtain ⟨ge, rfl, hge, hbe⟩ := F67.out
          refine step_append_e rfl (.tmp 67) (.tmp 70) _ rfl 52 i0 _ 5 72 Try.underlying50 hi0 hz0 hz1 hz2 rfl (by omega) ge (by exact g67) hbe wr.heap.size (some ⟨bp, offp, none⟩) m cp ((ps.take m).flatMap cellsV) (by exact g70) (HRD.out RW HR.out) (HONE.out) (by simp only [maxLen]; omega) (by omega) ?_
          intro g' o' c' w' hO' hB' hg' h0'
          exact hK _ _ hB' ⟨g', o', c', rfl, by have := HR.out.size; have : wk.drew.heap.size = wk.heap.size := rfl; omega, hO', h0'⟩
        · intro ra RW hR hk hd K hK
          obtain ⟨e10, g10⟩ := hk 10 (.pointer (some ⟨wr.heap.size, 0, none⟩)) (by kernel_rfl) rfl
          clear hk hd
          have HR := Lib.hid hR
          clear hR
          go_simp
          exact hK _ _ (Below.refl _ _) rfl
        · intro ra RW hR hk hd K hK
          obtain ⟨v72, e72, g72, f72⟩ := hd 5 72 (by kernel_rfl) rfl
          have f72 : v72 = .pointer (some ⟨wr.heap.size, 3, none⟩) := f72
          subst f72
          clear hk hd
          have HR := Lib.hid hR
          clear hR
          have dd0 := (HR.out.cell (p := ⟨wr.heap.size, 3, none⟩) hltk).trans v3
          go_simp
          exact hK _ _ (Below.refl _ _) rfl
        · intro ra RW hR hk hd K hK
          obtain ⟨e10, g10⟩ := hk 10 (.pointer (some ⟨wr.heap.size, 0, none⟩)) (by kernel_rfl) rfl
          clear hk hd
          have HR := Lib.hid hR
          clear hR
          go_simp
          exact hK _ _ (Below.refl _ _) rfl
        · intro ra RW hR hk hd K hK
          obtain ⟨v74, e74, g74, f74⟩ := hd 7 74 (by kernel_rfl) rfl
          have f74 : v74 = .pointer (some ⟨wr.heap.size, 4, none⟩) := f74
          subst f74
          clear hk hd
          have HR := Lib.hid hR
          clear hR
          have dd0 := (HR.out.cell (p := ⟨wr.heap.size, 4, none⟩) hltk).trans v4
          go_simp
          exact hK _ _ (Below.refl _ _) rfl
        · intro ra RW hR hk hd K hK
          obtain ⟨e12, g12⟩ := hk 12 (.pointer (some ⟨w0.heap.size, 0, none⟩)) (by kernel_rfl) rfl
          clear hk hd
          have HR := Lib.hid hR
          clear hR
          have dd0 := (HR.out.cell (p := ⟨w0.heap.size, 0, none⟩) hltk2).trans k0
          have dd1 := (HR.out.cell (p := ⟨w0.heap.size, 1, none⟩) hltk2).trans k1
          have dd2 := (HR.out.cell (p := ⟨w0.heap.size, 2, none⟩) hltk2).trans k2
          have dd3 := (HR.out.cell (p := ⟨w0.heap.size, 3, none⟩) hltk2).trans k3
          have dd4 := (HR.out.cell (p := ⟨w0.heap.size, 4, none⟩) hltk2).trans k4
          go_simp
          exact hK _ _ (Below.refl _ _) rfl
        · intro ra RW hR hk hd K hK
          obtain ⟨v76, e76, g76, f76⟩ := hd 9 76 (by kernel_rfl) rfl
          have f76 : v76 = .agg #[.int .i64 x0, .slice A1 n1 m1, .int .i64 x2, .int .i64 x3, .slice A4 n4 m4] := f76
          subst f76
          clear hk hd
          have HR := Lib.hid hR
          clear hR
          go_simp
          exact hK _ _ (below_al (Below.refl _ _) _) (kidRow_mk _ _ (Nat.le_trans (Nat.le_of_lt hltk) HR.out.size))
        · intro ra RW hR hk hd K hK
          obtain ⟨v73, e73, g73, f73⟩ := hd 6 73 (by kernel_rfl) rfl
          have f73 : v73 = .int .i64 mn := f73
          subst f73
          obtain ⟨v75, e75, g75, f75⟩ := hd 8 75 (by kernel_rfl) rfl
          have f75 : v75 = .int .i64 mx := f75
          subst f75
          obtain ⟨v77, e77, g77, f77⟩ := hd 10 77 (by kernel_rfl) rfl
          have F77 := Lib.hid f77
          clear f77
          clear hk hd
          have HR := Lib.hid hR
          clear hR
          obtain ⟨gq, rfl, hgq, hbq⟩ := F77.out
          have HGQ := Lib.hid hgq
          have HBQ := Lib.hid hbq
          clear hgq hbq F77
          go_simp
          exact hK _ _ (Below.refl _ _) ⟨gq, rfl, HGQ.out, HBQ.out⟩
        · intro ra RW hR hk hd K hK
          obtain ⟨v78, e78, g78, f78⟩ := hd 11 78 (by kernel_rfl) rfl
          have F78 := Lib.hid f78
          clear f78
          clear hk hd
          have HR := Lib.hid hR
          clear hR
          obtain ⟨gq, rfl, hgq, hbq⟩ := F78.out
          have HGQ := Lib.hid hgq
          have HBQ := Lib.hid hbq
          clear hgq hbq F78
          unfold ndV at *
          go_simp
          exact hK _ _ (below_al (Below.refl _ _) _) (newRow_mk _ _ HGQ.out HBQ.out)
      intro vs RW hR hF
      have F67 := Lib.hid (hF 0 (by decide))
      have q1 : vs 1 = .slice (some ⟨bp, offp, none⟩) (m + 1) cp := hF 1 (by decide)
      have q2 : vs 2 = .int .i64 (m : Int) := hF 2 (by decide)
      have q3 : vs 3 = .slice (some ⟨bp, offp, none⟩) m cp := hF 3 (by decide)
      have F71 := Lib.hid (hF 4 (by decide))
      have q5 : vs 5 = .pointer (some ⟨wr.heap.size, 3, none⟩) := hF 5 (by decide)
      have q6 : vs 6 = .int .i64 mn := hF 6 (by decide)
      have q7 : vs 7 = .pointer (some ⟨wr.heap.size, 4, none⟩) := hF 7 (by decide)
      have q8 : vs 8 = .int .i64 mx := hF 8 (by decide)
      have q9 : vs 9 = .agg #[.int .i64 x0, .slice A1 n1 m1, .int .i64 x2, .int .i64 x3, .slice A4 n4 m4] := hF 9 (by decide)
      have F77 := Lib.hid (hF 10 (by decide))
      have F78 := Lib.hid (hF 11 (by decide))
      have F79 := Lib.hid (hF 12 (by decide))
      simp only [List.take_succ_cons, List.take_zero, List.drop_succ_cons, List.drop_zero, setAll, List.setIfInBounds_toArray, List.set_cons_zero, List.set_cons_succ, q1, q2, q3, q5, q6, q7, q8, q9]
      clear hF q1 q2 q3 q5 q6 q7 q8 q9
      generalize vs 0 = v67 at *
      generalize vs 4 = v71 at *
      generalize vs 10 = v77 at *
      generalize vs 11 = v78 at *
      generalize vs 12 = v79 at *
      clear vs
      obtain ⟨g1, o1, c1, rfl, hg1, hO1, hE1⟩ := F71.out
      obtain ⟨h9, q, rfl, hb9, hq, hbq⟩ := F79.out
      have HBW := Lib.hid (HBLK.out.trans ((Below.refl _ wk).drew.trans (hR.mono (Nat.le_of_lt hltk))))
      have hsw : wr.heap.size ≤ RW.heap.size := HBW.out.size
      clear F67 F71 F77 F78 F79 hR
      refine wpList_append_keep RW rfl (.tmp 71) (.tmp 79) _ rfl 52 i0 _ 5 72 Try.underlying50 hi0 hz0 hz1 hz2 rfl (by omega) (.slice (some ⟨g1, o1, none⟩) m c1) m ((ps.take m).flatMap cellsV) rfl hO1 ⟨h9, 0, none⟩ 1 1 [.int .i64 6, .slice none 0 0, .int .i64 mn, .int .i64 mx, .slice (some ⟨q, 0, none⟩) 1 1] rfl rfl (by exact World.news_of_block hb9) (by simp [Value.oneCell']) (by omega) (by simp only [maxLen]; omega) (by omega) ?_
      intro g5 o5 c5 w5 hown5 hgrow5 hat5 hkeep5
      obtain ⟨hqg, hq5⟩ := count_far hE1 hbq rfl hown5 hgrow5 hat5 hkeep5
      have hg15 : wr.heap.size ≤ g5 := by
        rcases hat5 with h | h
        · have : g1 = g5 := by simpa [Value.ownBlock] using h
          omega
        · omega
      have HT5 := Lib.hid (TI.count HI.out (Below.grown HBW.out hgrow5 hsw (fun k hk => by have : g1 = k := (by simpa [Value.ownBlock] using hk); omega)) HM.out HKID.out HPL.out HPN.out hown5 hg15 hq hqg hq5 HKE.out rfl rfl)
      clear hown5 hgrow5 hat5 hkeep5 hqg hq5 hg15 hO1 hE1 hb9 hq hbq hg1 k0 k1 k2 k3 k4 v3 v4 hltk hltk2
      go_wp2_with fail
      go_roundw
      case rel => exact ⟨i + 1, alts, pieces.dropLast ++ [Nd.mk 6 [] mn mx [kid]], false, f2, rfl, by go_num, by omega, by omega, by have := HM.out; simp; omega, by show _ ≤ _; have := HF.out; omega, fun _ => by simp, HT5.out, HR.out⟩
      case measure => simp [intOf] <;> omega
  have hk1 : kind = 1 := by have := HKT.out; omega
  subst hk1
  have hr : r = 40 ∨ r = 41 ∨ r = 94 ∨ r = 36 := by
    have h1 := HKT.out
    have h2 : r ≠ 124 := fun e => hbar ⟨rfl, e⟩
    omega
  clear hk0 hk2 hbar
  have HH := Lib.hid hr
  clear hr
  by_cases h94 : r = 94
  · subst h94
    have HR : Hid (TG f2 l deep (i + 1) alts (pieces ++ [.mk 2 [] 0 0 []]) false = R) := by
      refine hTG hlti ?_
      rw [← HG2.out, treeL, HHT.out]
      rfl
    clear HG2 hTG
    obtain ⟨ps, hpl, hP, hpn⟩ := HI.out.p
    have HPL := Lib.hid hpl
    have HPO := Lib.hid hP
    have HPN := Lib.hid hpn
    clear hpl hP hpn
    go_wp2_with (at_builtin; refine wpList_append_mine _ rfl (.tmp 119) (.tmp 121) _ rfl 52 i0 _ 5 72 Try.underlying50 hi0 hz0 hz1 hz2 rfl (by omega) (.slice Ap pieces.length cp) pieces.length (ps.flatMap cellsV) rfl (by exact ((HPO.out.alloc _).alloc _)) _ 1 1 [.int .i64 2, .slice none 0 0, .int .i64 0, .int .i64 0, .slice none 0 0] rfl rfl (by exact news_pushs rfl (by simp)) (by simp [Value.oneCell']) (by omega) (by simp only [maxLen]; omega) (by omega) _ rfl ?_; intro g5 o5 c5 w5 hown5 hgrow5 hat5; have HT5 := Lib.hid (TI.piece HI.out ((below_al (Below.refl wr.heap.size wr) _).alloc (by simp) _) hgrow5 HPL.out HPN.out HPO.out hown5 (hat_of hat5 (by simp; omega)) (.mk 2 0 0 [] [] _ _ [] (SetV.nil_ _) rfl (Own.nil_ _ _ _) (by simp [Value.ownBlock]) (fun j h => absurd h (by simp)))); clear hown5 hgrow5 hat5)
    go_roundw
    case rel => exact ⟨i + 1, alts, pieces ++ [Nd.mk 2 [] 0 0 []], false, f2, rfl, by go_num, by omega, by omega, by simp; omega, by show _ ≤ _; have := HF.out; omega, fun _ => by simp, HT5.out, HR.out⟩
    case measure => simp [intOf] <;> omega
  by_cases h36 : r = 36
  · subst h36
    have HR : Hid (TG f2 l deep (i + 1) alts (pieces ++ [.mk 3 [] 0 0 []]) false = R) := by
      refine hTG hlti ?_
      rw [← HG2.out, treeL, HHT.out]
      rfl
    clear HG2 hTG
    obtain ⟨ps, hpl, hP, hpn⟩ := HI.out.p
    have HPL := Lib.hid hpl
    have HPO := Lib.hid hP
    have HPN := Lib.hid hpn
    clear hpl hP hpn
    go_wp2_with (at_builtin; refine wpList_append_mine _ rfl (.tmp 125) (.tmp 127) _ rfl 52 i0 _ 5 72 Try.underlying50 hi0 hz0 hz1 hz2 rfl (by omega) (.slice Ap pieces.length cp) pieces.length (ps.flatMap cellsV) rfl (by exact ((HPO.out.alloc _).alloc _)) _ 1 1 [.int .i64 3, .slice none 0 0, .int .i64 0, .int .i64 0, .slice none 0 0] rfl rfl (by exact news_pushs rfl (by simp)) (by simp [Value.oneCell']) (by omega) (by simp only [maxLen]; omega) (by omega) _ rfl ?_; intro g5 o5 c5 w5 hown5 hgrow5 hat5; have HT5 := Lib.hid (TI.piece HI.out ((below_al (Below.refl wr.heap.size wr) _).alloc (by simp) _) hgrow5 HPL.out HPN.out HPO.out hown5 (hat_of hat5 (by simp; omega)) (.mk 3 0 0 [] [] _ _ [] (SetV.nil_ _) rfl (Own.nil_ _ _ _) (by simp [Value.ownBlock]) (fun j h => absurd h (by simp)))); clear hown5 hgrow5 hat5)
    go_roundw
    case rel => exact ⟨i + 1, alts, pieces ++ [Nd.mk 3 [] 0 0 []], false, f2, rfl, by go_num, by omega, by omega, by simp; omega, by show _ ≤ _; have := HF.out; omega, fun _ => by simp, HT5.out, HR.out⟩
    case measure => simp [intOf] <;> omega
  by_cases h41 : r = 41
  · subst h41
    have HR : Hid (R = none) := by
      show _ = _
      rw [← HG2.out, treeL, HHT.out]
      rfl
    clear HG2 hTG
    go_upto_region 14 with fail
    have hbl0 : Below wr.heap.size wr (wr.alloc (.cells #[.int .i64 1, .int .i64 41, .slice As set.length cs, .int .i64 mn, .int .i64 mx] 74)) := below_al (Below.refl _ _) _
    have hbt0 := Blk.new wr 74 #[.int .i64 1, .int .i64 41, .slice As set.length cs, .int .i64 mn, .int .i64 mx]
    generalize wr.alloc (.cells #[.int .i64 1, .int .i64 41, .slice As set.length cs, .int .i64 mn, .int .i64 mx] 74) = w0 at hbl0 hbt0 ⊢
    have HBL0 := Lib.hid hbl0
    have HBT0 := Lib.hid hbt0
    have hs0 : wr.heap.size < w0.heap.size := hbt0.lt
    have u0 := hbt0.cell 0
    have u1 := hbt0.cell 1
    have u2 := hbt0.cell 2
    have u3 := hbt0.cell 3
    have u4 := hbt0.cell 4
    simp only [List.getElem?_toArray, List.getElem?_cons_succ, List.getElem?_cons_zero] at u0 u1 u2 u3 u4
    have HC := Lib.hid (And.intro c0 (And.intro c1 (And.intro c2 (And.intro c3 c4))))
    clear hbl0 hbt0 c0 c1 c2 c3 c4
    have hbk := HI.out.blk.below HBL0.out HI.out.blk.lt
    have hbe := HB.out.trans (HBL0.out.mono (Nat.le_of_lt hlt))
    have hlw := hbk.lt
    have HBK := Lib.hid hbk
    have HBE := Lib.hid hbe
    have y0 := hbk.cell 0
    have y1 := hbk.cell 1
    have y2 := hbk.cell 2
    have y3 := hbk.cell 3
    have y4 := hbk.cell 4
    have z0 := hbk.frozen 0
    have z1 := hbk.frozen 1
    have z2 := hbk.frozen 2
    have z3 := hbk.frozen 3
    have z4 := hbk.frozen 4
    simp only [List.getElem?_toArray, List.getElem?_cons_succ, List.getElem?_cons_zero] at y0 y1 y2 y3 y4
    clear hbk hbe
    go_wp2_with fail
    have hb5 := ((((HBK.out.set_ 0 (.int .i64 0)).set_ 1 (.slice none 0 0)).set_ 2 (.int .i64 0)).set_ 3 (.int .i64 0)).set_ 4 (.slice none 0 0)
    have hB5 := ((((HBE.out.setCell (p := ⟨w.heap.size, 0, none⟩) (Nat.le_refl _) (.int .i64 0)).setCell (p := ⟨w.heap.size, 1, none⟩) (Nat.le_refl _) (.slice none 0 0)).setCell (p := ⟨w.heap.size, 2, none⟩) (Nat.le_refl _) (.int .i64 0)).setCell (p := ⟨w.heap.size, 3, none⟩) (Nat.le_refl _) (.int .i64 0)).setCell (p := ⟨w.heap.size, 4, none⟩) (Nat.le_refl _) (.slice none 0 0)
    generalize ((((w0.setCell ⟨w.heap.size, 0, none⟩ (.int .i64 0)).setCell ⟨w.heap.size, 1, none⟩ (.slice none 0 0)).setCell ⟨w.heap.size, 2, none⟩ (.int .i64 0)).setCell ⟨w.heap.size, 3, none⟩ (.int .i64 0)).setCell ⟨w.heap.size, 4, none⟩ (.slice none 0 0) = W5 at hb5 hB5 ⊢
    have x0 := hb5.cell 0
    have x1 := hb5.cell 1
    have x2 := hb5.cell 2
    have x3 := hb5.cell 3
    have x4 := hb5.cell 4
    simp at x0 x1 x2 x3 x4
    have HB5 := Lib.hid hB5
    clear hb5 hB5 y0 y1 y2 y3 y4 z0 z1 z2 z3 z4
    try simp only [Exit.inBlock, Exit.then]
    refine bodyPost_ret (by simp [results, Try.results37, go_sem, x0, x1, x2, x3, x4]; try rfl) rfl ?_
    refine ⟨HB5.out, ?_⟩
    rw [HR.out]
    rfl
  obtain rfl : r = 40 := by have := HH.out; omega
  clear h94 h36 h41 HH
  have HG3 : Hid ((if closeF (l.drop i) 0 i < 0 then none else if deep + 1 > 10 then none else match treeL f2 ((l.take (closeF (l.drop i) 0 i).toNat).drop (i + 1)) (deep + 1) 0 [] [] false with
        | none => none
        | some n => treeL f2 l deep ((closeF (l.drop i) 0 i).toNat + 1) alts (pieces ++ [n]) true) = R) := by
    show _ = _
    rw [← HG2.out, treeL, HHT.out]
    rfl
  clear HG2
  have HCL := Lib.hid (close_bounds l i n _ HL.out HHT.out rfl rfl)
  have HCA2 := Lib.hid (fun W (hW : Below wr.heap.size wr W) => close_any l (some ⟨b, off, none⟩) n c i W (HT.out.under (HI.out.below.trans (hW.mono HI.out.below.size))) HL.out (by omega) hc (by omega))
  obtain ⟨K, hK⟩ : ∃ K, closeF (l.drop i) 0 i = K := ⟨_, rfl⟩
  rw [hK] at HG3 HCL HCA2
  go_upto_region 14 with fail
  have hbl0 : Below wr.heap.size wr (wr.alloc (.cells #[.int .i64 1, .int .i64 40, .slice As set.length cs, .int .i64 mn, .int .i64 mx] 74)) := below_al (Below.refl _ _) _
  have hbt0 := Blk.new wr 74 #[.int .i64 1, .int .i64 40, .slice As set.length cs, .int .i64 mn, .int .i64 mx]
  generalize wr.alloc (.cells #[.int .i64 1, .int .i64 40, .slice As set.length cs, .int .i64 mn, .int .i64 mx] 74) = w0 at hbl0 hbt0 ⊢
  have HBL0 := Lib.hid hbl0
  have HBT0 := Lib.hid hbt0
  have hs0 : wr.heap.size < w0.heap.size := hbt0.lt
  have u0 := hbt0.cell 0
  have u1 := hbt0.cell 1
  have u2 := hbt0.cell 2
  have u3 := hbt0.cell 3
  have u4 := hbt0.cell 4
  simp only [List.getElem?_toArray, List.getElem?_cons_succ, List.getElem?_cons_zero] at u0 u1 u2 u3 u4
  have HC := Lib.hid (And.intro c0 (And.intro c1 (And.intro c2 (And.intro c3 c4))))
  clear hbl0 hbt0 c0 c1 c2 c3 c4
  go_wp2_with fail
  refine (HCA2.out w0 HBL0.out).mono ?_
  rintro e1 w0' ⟨rfl, hw⟩
  obtain rfl := hw.symm
  by_cases hneg : K < 0
  · have HR : Hid (R = none) := by
      show _ = _
      rw [← HG3.out, if_pos hneg]
    clear HG3 HCL hTG
    have hbk := HI.out.blk.below HBL0.out HI.out.blk.lt
    have hbe := HB.out.trans (HBL0.out.mono (Nat.le_of_lt hlt))
    have hlw := hbk.lt
    have HBK := Lib.hid hbk
    have HBE := Lib.hid hbe
    have y0 := hbk.cell 0
    have y1 := hbk.cell 1
    have y2 := hbk.cell 2
    have y3 := hbk.cell 3
    have y4 := hbk.cell 4
    have z0 := hbk.frozen 0
    have z1 := hbk.frozen 1
    have z2 := hbk.frozen 2
    have z3 := hbk.frozen 3
    have z4 := hbk.frozen 4
    simp only [List.getElem?_toArray, List.getElem?_cons_succ, List.getElem?_cons_zero] at y0 y1 y2 y3 y4
    clear hbk hbe
    go_wp2_with fail
    have hb5 := ((((HBK.out.set_ 0 (.int .i64 0)).set_ 1 (.slice none 0 0)).set_ 2 (.int .i64 0)).set_ 3 (.int .i64 0)).set_ 4 (.slice none 0 0)
    have hB5 := ((((HBE.out.setCell (p := ⟨w.heap.size, 0, none⟩) (Nat.le_refl _) (.int .i64 0)).setCell (p := ⟨w.heap.size, 1, none⟩) (Nat.le_refl _) (.slice none 0 0)).setCell (p := ⟨w.heap.size, 2, none⟩) (Nat.le_refl _) (.int .i64 0)).setCell (p := ⟨w.heap.size, 3, none⟩) (Nat.le_refl _) (.int .i64 0)).setCell (p := ⟨w.heap.size, 4, none⟩) (Nat.le_refl _) (.slice none 0 0)
    generalize ((((w0.setCell ⟨w.heap.size, 0, none⟩ (.int .i64 0)).setCell ⟨w.heap.size, 1, none⟩ (.slice none 0 0)).setCell ⟨w.heap.size, 2, none⟩ (.int .i64 0)).setCell ⟨w.heap.size, 3, none⟩ (.int .i64 0)).setCell ⟨w.heap.size, 4, none⟩ (.slice none 0 0) = W5 at hb5 hB5 ⊢
    have x0 := hb5.cell 0
    have x1 := hb5.cell 1
    have x2 := hb5.cell 2
    have x3 := hb5.cell 3
    have x4 := hb5.cell 4
    simp at x0 x1 x2 x3 x4
    have HB5 := Lib.hid hB5
    clear hb5 hB5 y0 y1 y2 y3 y4 z0 z1 z2 z3 z4
    try simp only [Exit.inBlock, Exit.then]
    refine bodyPost_ret (by simp [results, Try.results37, go_sem, x0, x1, x2, x3, x4]; try rfl) rfl ?_
    refine ⟨HB5.out, ?_⟩
    rw [HR.out]
    rfl
  obtain ⟨k, rfl⟩ : ∃ k : Nat, K = (k : Int) := ⟨K.toNat, by omega⟩
  have hki := HCL.out (by omega)
  have HKI := Lib.hid hki
  have HG4 : Hid ((match (if deep + 1 > 10 then none else treeL f2 ((l.take k).drop (i + 1)) (deep + 1) 0 [] [] false) with
        | none => none
        | some n => treeL f2 l deep (k + 1) alts (pieces ++ [n]) true) = R) := by
    have h := HG3.out
    rw [if_neg hneg] at h
    by_cases hd10 : deep + 1 > 10
    · simp only [if_pos hd10] at h ⊢
      exact h
    · simp only [if_neg hd10] at h ⊢
      exact h
  obtain ⟨A2, c2', hrun, htk, hc2⟩ := tks_part ((HT.out.under HI.out.below).under HBL0.out) HL.out hc (i + 1) k (by omega) (by omega)
  have hrun' : ∀ W, (Instr.slice 72 (.slice (some ⟨b, off, none⟩) n c) (some (.int .i64 ((i : Int) + 1))) (some (.int .i64 (k : Int))) none).run Try.prog W = .ok (.slice A2 (k - (i + 1)) c2') W := hrun
  have HIH2 := Lib.hid (HIH.out ((l.take k).drop (i + 1)) A2 (k - (i + 1)) c2' f2 w0 (by have := HF.out; omega) htk (by rw [List.length_drop, List.length_take, HL.out]; omega) hc2 (by omega) (fun t ht => HK.out t (List.mem_of_mem_take (List.mem_of_mem_drop ht))))
  clear hrun htk hc2 hki HG3 HCL hneg HCA2 hK
  obtain ⟨R2, hR2⟩ : ∃ R2, (if deep + 1 > 10 then none else treeL f2 ((l.take k).drop (i + 1)) (deep + 1) 0 [] [] false) = R2 := ⟨_, rfl⟩
  rw [hR2] at HIH2 HG4
  clear hR2
  go_wp2_with fail
  refine HIH2.out.mono ?_
  rintro e2 w1 ⟨hb1, hm⟩
  have HB1 := Lib.hid hb1
  have hs1 := hb1.size
  have HC1 := Lib.hid (And.intro u0 (And.intro u1 (And.intro u2 (And.intro u3 u4))))
  clear hb1 HIH2 hrun' u0 u1 u2 u3 u4
  cases R2 with
  | none =>
    obtain rfl := hm
    have HR : Hid (R = none) := HG4.out.symm
    clear HG4 hTG
    unfold zeroNd ndV
    go_upto_region 29 with fail
    have hbl2 : Below w1.heap.size w1 (w1.alloc (.cells #[.int .i64 0, .slice none 0 0, .int .i64 0, .int .i64 0, .slice none 0 0] 52)) := below_al (Below.refl _ _) _
    generalize w1.alloc (.cells #[.int .i64 0, .slice none 0 0, .int .i64 0, .int .i64 0, .slice none 0 0] 52) = w2 at hbl2 ⊢
    have HBL2 := Lib.hid (below_trans (below_trans HBL0.out HB1.out) hbl2)
    clear hbl2
    have hbk := HI.out.blk.below HBL2.out HI.out.blk.lt
    have hbe := HB.out.trans (HBL2.out.mono (Nat.le_of_lt hlt))
    have hlw := hbk.lt
    have HBK := Lib.hid hbk
    have HBE := Lib.hid hbe
    have y0 := hbk.cell 0
    have y1 := hbk.cell 1
    have y2 := hbk.cell 2
    have y3 := hbk.cell 3
    have y4 := hbk.cell 4
    have z0 := hbk.frozen 0
    have z1 := hbk.frozen 1
    have z2 := hbk.frozen 2
    have z3 := hbk.frozen 3
    have z4 := hbk.frozen 4
    simp only [List.getElem?_toArray, List.getElem?_cons_succ, List.getElem?_cons_zero] at y0 y1 y2 y3 y4
    clear hbk hbe
    go_wp2_with fail
    have hb5 := ((((HBK.out.set_ 0 (.int .i64 0)).set_ 1 (.slice none 0 0)).set_ 2 (.int .i64 0)).set_ 3 (.int .i64 0)).set_ 4 (.slice none 0 0)
    have hB5 := ((((HBE.out.setCell (p := ⟨w.heap.size, 0, none⟩) (Nat.le_refl _) (.int .i64 0)).setCell (p := ⟨w.heap.size, 1, none⟩) (Nat.le_refl _) (.slice none 0 0)).setCell (p := ⟨w.heap.size, 2, none⟩) (Nat.le_refl _) (.int .i64 0)).setCell (p := ⟨w.heap.size, 3, none⟩) (Nat.le_refl _) (.int .i64 0)).setCell (p := ⟨w.heap.size, 4, none⟩) (Nat.le_refl _) (.slice none 0 0)
    generalize ((((w2.setCell ⟨w.heap.size, 0, none⟩ (.int .i64 0)).setCell ⟨w.heap.size, 1, none⟩ (.slice none 0 0)).setCell ⟨w.heap.size, 2, none⟩ (.int .i64 0)).setCell ⟨w.heap.size, 3, none⟩ (.int .i64 0)).setCell ⟨w.heap.size, 4, none⟩ (.slice none 0 0) = W5 at hb5 hB5 ⊢
    have x0 := hb5.cell 0
    have x1 := hb5.cell 1
    have x2 := hb5.cell 2
    have x3 := hb5.cell 3
    have x4 := hb5.cell 4
    simp at x0 x1 x2 x3 x4
    have HB5 := Lib.hid hB5
    clear hb5 hB5 y0 y1 y2 y3 y4 z0 z1 z2 z3 z4
    try simp only [Exit.inBlock, Exit.then]
    refine bodyPost_ret (by simp [results, Try.results37, go_sem, x0, x1, x2, x3, x4]; try rfl) rfl ?_
    refine ⟨HB5.out, ?_⟩
    rw [HR.out]
    exact rfl
  | some nd =>
    obtain ⟨v, rfl, hv⟩ := hm
    obtain ⟨x0, A1, n1, m1, x2, x3, A4, n4, m4, rfl⟩ := hv.parts
    have HV := Lib.hid hv
    have HR : Hid (TG f2 l deep (k + 1) alts (pieces ++ [nd]) true = R) := hTG (by have := HKI.out; omega) HG4.out
    clear HG4 hTG hv
    obtain ⟨ps, hpl, hP, hpn⟩ := HI.out.p
    have HPL := Lib.hid hpl
    have HPO := Lib.hid hP
    have HPN := Lib.hid hpn
    have HBL1 := Lib.hid (below_trans HBL0.out HB1.out)
    have HPO1 := Lib.hid (hP.below HBL1.out fun k hk => hP.lt hk)
    have hpk : ∀ k, (Value.slice Ap pieces.length cp).ownBlock = some k → k < wr.heap.size := fun k hk => hP.lt hk
    have HPK := Lib.hid hpk
    clear hpl hP hpn hpk
    have hki := HKI.out
    unfold ndV
    go_wp2_with (at_builtin; go_loud (refine wpList_append_mine _ rfl (.tmp 112) (.tmp 114) _ rfl 52 i0 _ 5 72 Try.underlying50 hi0 hz0 hz1 hz2 rfl (by omega) (.slice Ap pieces.length cp) pieces.length (ps.flatMap cellsV) rfl (by exact ((HPO1.out.alloc _).alloc _)) _ 1 1 [.int .i64 x0, .slice A1 n1 m1, .int .i64 x2, .int .i64 x3, .slice A4 n4 m4] rfl rfl (by exact news_pushs rfl (by simp)) (by simp [Value.oneCell']) (by omega) (by simp only [maxLen]; omega) (by omega) _ rfl ?_); intro g5 o5 c5 w5 hown5 hgrow5 hat5; have HT5 := Lib.hid (TI.sub HI.out HBL1.out (Nat.le_of_lt hs0) hs1 hgrow5 HPL.out HPN.out HPO.out hown5 rfl hat5 (by simp) HV.out); clear hown5 hgrow5 hat5)
    go_roundw
    case rel => exact ⟨k + 1, alts, pieces ++ [nd], true, f2, rfl, by go_num, by have := HKI.out; omega, by have := HKI.out; omega, by have := HKI.out; simp; omega, by show _ ≤ _; have := HF.out; have := HKI.out; omega, fun _ => by simp, HT5.out, HR.out⟩
    case measure => have := HKI.out; simp [intOf] <;> omega
/-- Tree, at any depth. -/
theorem tree_any : ∀ (g deep : Nat), deep + g = 11 → ∀ (l : List Tk) (A : Option Addr) (n c f : Nat) (w : World), n + 2 ≤ f → TksR w A l → l.length = n → n ≤ c → n ≤ 200 →
    (∀ t ∈ l, t.kind = 0 ∨ t.kind = 2 ∨ (t.kind = 1 ∧ (t.r = 124 ∨ t.r = 40 ∨ t.r = 41 ∨ t.r = 94 ∨ t.r = 36))) →
    Calls Try.prog 37 #[.slice A n c, .int .i64 (deep : Int)] w (RetTree w (if deep > 10 then none else treeL f l deep 0 [] [] false))
  | 0, deep, hg, l, A, n, c, f, w, _, _, _, _, _, _ => by
    rw [if_pos (by omega)]
    exact tree_deep A n c _ w (by omega)
  | g + 1, deep, hg, l, A, n, c, f, w, hf, hr, hl, hc, hn, hk => by
    rw [if_neg (by omega)]
    refine tree_step l deep f A n c w (by omega) hf hr hl hc hn hk ?_
    intro l' A' n' c' f' w' h1 h2 h3 h4 h5 h6
    exact tree_any g (deep + 1) (by omega) l' A' n' c' f' w' h1 h2 h3 h4 h5 h6
end Go.Proofs.Ytjfkppbfckgckaa
