/-
  the contract of prog's alt, given its kids'; what every tree's program is like: its length, its instructions; no condition beyond those that each theorem states.
-/
import Derived.Test.YtjfkppbfckgckaaG08
import Derived.BigRegion
import Derived.Test.YtjfkppbfckgckaaG14
set_option linter.unusedVariables false
set_option linter.unusedSimpArgs false
namespace Go.Proofs.Ytjfkppbfckgckaa
set_option maxRecDepth 20000
open Go.RowKit Go.Rb
attribute [local irreducible] Go.wpQuiet

theorem altP_lt {kids : List Nd} (h : ∀ k ∈ kids, Grows (nodeP k)) : ∀ ps es, (∀ e ∈ es, e < ps.length) → ∀ e ∈ (altP kids ps es).2, e < (altP kids ps es).1.length := by
  induction kids with
  | nil => intro ps es he; rw [altP]; exact he
  | cons k ks ih =>
    intro ps es he
    have hk := h k (by simp)
    rw [altP]
    split
    · intro e hm
      exact Nat.lt_of_lt_of_le (he e hm) (hk ps)
    · refine ih (fun k hk => h k (by simp [hk])) _ _ fun e hm => ?_
      rw [oneAlt_len]
      have h1 := hk (splitP ps)
      rw [split_len] at h1
      rcases List.mem_append.1 hm with hm | hm
      · have := he e hm; omega
      · obtain rfl : e = (nodeP k (splitP ps)).length := by simpa using hm
        omega
theorem altP_es {kids : List Nd} : ∀ ps es, (altP kids ps es).2.length ≤ es.length + kids.length := by
  induction kids with
  | nil => intro ps es; rw [altP]; simp
  | cons k ks ih =>
    intro ps es
    rw [altP]
    split
    · simp
    · refine Nat.le_trans (ih _ _) ?_
      simp; omega
set_option maxRecDepth 20000 in
set_option maxHeartbeats 4000000 in
theorem alt_any {kids : List Nd} (hkn : ∀ k ∈ kids, NodeC k) (hg : ∀ k ∈ kids, Grows (nodeP k)) (h1 : 1 ≤ kids.length) (hl : kids.length ≤ 1000) : AltC kids := by
  intro B m w S ps set mn mx sv A4 m4 hM hB hv hb
  obtain ⟨i0, hi0, hz0, hz1, hz2⟩ := info_parts infoInt
  have HKN := Lib.hid hkn
  have HG := Lib.hid hg
  have HM := Lib.hid hM
  have HB := Lib.hid hB
  have HV := Lib.hid hv
  rw [endXY_len] at hb
  obtain ⟨R2, hR2⟩ : ∃ R2, altP kids ps [] = R2 := ⟨_, rfl⟩
  have HLT := altP_lt hg ps [] (by simp)
  have hes : (altP kids ps []).2.length ≤ kids.length := by have := altP_es (kids := kids) ps []; simpa using this
  rw [hR2] at hb HLT hes ⊢
  have HLT := Lib.hid HLT
  have HR2 : Hid (altP (kids.drop 0) ps [] = R2) := hR2
  have HBD := Lib.hid hb
  have HES := Lib.hid hes
  obtain ⟨nk, hnk⟩ : ∃ nk, kids.length = nk := ⟨_, rfl⟩
  have HNK := Lib.hid hnk
  rw [hnk] at h1 hl HV HES ⊢
  clear hkn hg hM hB hv hb hR2 hes hnk
  go_enter Try.func56, Try.ntmps56
  go_wp2_with fail
  go_loopw [4, 12] (fun v4 iv wr => ∃ (i : Nat) (P : List Ins) (es : List Nat), iv = .int .i64 (i : Int) ∧ i < nk ∧ es.length ≤ i ∧ Hid (Mk B wr m P) ∧ Hid (NsO wr v4 es) ∧ Hid (∀ k, v4.ownBlock = some k → w.heap.size ≤ k) ∧ Hid (Fr B w wr) ∧ Hid (altP (kids.drop i) P es = R2)) (fun _ iv _ => nk - (intOf iv).toNat)
  case atStart => exact ⟨0, ps, [], rfl, by omega, by simp, HM.out, Own.nil_ _ _ _, by simp [Hid, Value.ownBlock], Fr.refl _ _, HR2.out⟩
  case round =>
  obtain ⟨i, P, es, rfl, hin, hel, HMI, HNI, HKI, HFI, HRI⟩ := hrel
  have hcl : i < kids.length := by rw [HNK.out]; exact hin
  obtain ⟨k, hki⟩ : ∃ k, kids[i]? = some k := ⟨_, List.getElem?_eq_getElem hcl⟩
  obtain ⟨A1', m1', A4', m4', e, -, -, hkid⟩ := (HV.out.fr HFI.out).kids
  rw [HNK.out] at e
  simp only [ndV, Value.agg.injEq, Array.mk.injEq, List.cons.injEq, Value.slice.injEq, true_and, and_true] at e
  obtain ⟨-, rfl, rfl⟩ := e
  obtain ⟨b, off, x0, A5, n5, m5, x2, x3, A6, n6, m6, rfl, hbl, hnv, c0, c1, c2, c3, c4⟩ := hkid wr (Below.refl _ _) i k hki
  have hmem := List.mem_of_getElem? hki
  have hgk := HG.out k hmem
  have hst : altP (k :: kids.drop (i + 1)) P es = R2 := by
    rw [← HRI.out, List.drop_eq_getElem_cons hcl, ← Option.some.inj ((List.getElem?_eq_getElem hcl).symm.trans hki)]
  rw [altP] at hst
  have hfa : Fr B wr (wr.alloc (.cells #[.int .i64 x0, .slice A5 n5 m5, .int .i64 x2, .int .i64 x3, .slice A6 n6 m6] 52)) := Fr.of_below (below_al (Below.refl _ _) _) (Nat.le_trans HB.out HFI.out.size)
  have hma := HMI.out.under (below_al (Below.refl wr.heap.size wr) (.cells #[.int .i64 x0, .slice A5 n5 m5, .int .i64 x2, .int .i64 x3, .slice A6 n6 m6] 52))
  have hba := Nat.le_trans (Nat.le_trans HB.out HFI.out.size) hfa.size
  have hbk := Blk.new wr 52 #[.int .i64 x0, .slice A5 n5 m5, .int .i64 x2, .int .i64 x3, .slice A6 n6 m6]
  have hnva := hnv.fr hfa
  have hnia := HNI.out.fr hfa
  obtain ⟨A8, c8, rfl, hc8, -⟩ := HNI.out.len_
  clear hki hkid hnv
  unfold ndV at hnva
  by_cases hlast : i + 1 = nk
  · have hemp : (kids.drop (i + 1)).isEmpty = true := by rw [List.drop_eq_nil_of_le (by rw [HNK.out]; omega)]; rfl
    rw [if_pos hemp] at hst
    subst hst
    simp only at HBD HLT HES ⊢
    have hF : ((i : Int) == (nk : Int) - 1) = true := by simp; omega
    have HC := Lib.hid (HKN.out k hmem B m _ S _ P hma hba hnva HBD.out)
    have HFA := Lib.hid (HFI.out.trans hfa)
    have HNA := Lib.hid hnia
    clear hfa hma hba hnva hnia hgk hmem hemp hcl
    go_wp2_with fail
    refine HC.out.mono ?_
    rintro e1 w1 ⟨rfl, hm1, hf1⟩
    have HM1 := Lib.hid hm1
    have HF1 := Lib.hid (HFA.out.trans hf1)
    have HN1 := Lib.hid (HNA.out.fr hf1)
    obtain ⟨Q, hQ⟩ : ∃ Q, nodeP k P = Q := ⟨_, rfl⟩
    have HQ := Lib.hid hQ
    rw [hQ] at HM1 HBD HLT
    have hns50 : es.length ≤ 1000 := by omega
    obtain ⟨ns, hns⟩ : ∃ ns, es.length = ns := ⟨_, rfl⟩
    have HNS2 := Lib.hid hns
    have hrd := Own.rd HN1.out
    have HRD := Lib.hid hrd
    rw [hns] at hc8 HRD hns50 hel ⊢
    clear hm1 hf1 HC hQ hns hrd hbk
    go_wp2_with fail
    go_loopw [50] (fun iv wx => ∃ k : Nat, iv = .int .i64 (k : Int) ∧ k ≤ ns ∧ Hid (Mk B wx m (endXY Q (es.take k))) ∧ Hid (Fr B w1 wx)) (fun iv _ => ns - (intOf iv).toNat)
    case atStart => exact ⟨0, rfl, by omega, HM1.out, Fr.refl _ _⟩
    case round =>
    obtain ⟨j, rfl, hkn, HMk, HFk⟩ := hrel
    by_cases hk : j < ns
    · have hcl : j < es.length := by rw [HNS2.out]; exact hk
      obtain ⟨s, hsk⟩ : ∃ s, es[j]? = some s := ⟨_, List.getElem?_eq_getElem hcl⟩
      have hsq := HLT.out s (List.mem_of_getElem? hsk)
      obtain ⟨b8, o8, rfl, hb8, -⟩ := HRD.out.2 (by omega)
      have cs2 : wr.cell? ⟨b8, o8 + j, none⟩ = some (.int .i64 (s : Int)) := by
        have hfx := Own.fr HN1.out HFk.out (by decide) (by decide)
        obtain ⟨b9, o9, e9, -, hc9⟩ := hfx.rd.2 (by omega)
        simp only [Option.some.injEq, Addr.mk.injEq, and_true] at e9
        obtain ⟨rfl, rfl⟩ := e9
        have := hc9 j (by rw [HNS2.out]; omega)
        rw [List.getElem?_map, hsk] at this
        exact this
      have hbx8 : b8 < wr.heap.size := Nat.lt_of_lt_of_le hb8 HFk.out.size
      have hql : (endXY Q (es.take j)).length = Q.length := endXY_len _ _
      have hE := endXY_snoc Q (es.take j) s
      rw [← take_snoc hsk] at hE
      have HE := Lib.hid hE
      have hq4 : (endXY Q (es.take j)).length ≤ 4000 := by rw [hql]; exact HBD.out
      have hsq2 : s < (endXY Q (es.take j)).length := by rw [hql]; exact hsq
      obtain ⟨Z, hZ⟩ : ∃ Z, endXY Q (es.take j) = Z := ⟨_, rfl⟩
      rw [hZ] at HMk HE hq4 hsq2
      obtain ⟨g, off2, c, svs, hA, hc⟩ := HMk.out.form (by omega)
      obtain ⟨y0, z0, hml, hgl, ⟨u2, c2'⟩, ⟨u3, c3'⟩, f2, f3⟩ := hA.cells s hsq2
      have hgm := hA.ne
      obtain ⟨hA2, hF4⟩ := hA.xy (i := s) hsq2 (Z.length : Int) (Z.length : Int)
      have HA2 : Hid (Mk B ((wr.setCell ⟨g, off2 + s * 4 + 2, none⟩ (.int .i64 (Z.length : Int))).setCell ⟨g, off2 + s * 4 + 3, none⟩ (.int .i64 (Z.length : Int))).drew m (endXY Q (es.take (j + 1)))) := by show Mk _ _ _ _; rw [HE.out]; exact hA2.mk_.under (Below.refl _ _).drew
      have HF4 := Lib.hid (HFk.out.trans hF4).drew_
      clear hA hA2 hF4 hZ hql hE hsk hsq hcl c0 c1 c2 c3 c4
      go_upto_region 14 with fail
      go_region
      go_wp2_with fail
      go_roundw
      case rel => exact ⟨j + 1, by go_num, by omega, HA2.out, HF4.out⟩
      case measure => simp [intOf] <;> omega
    · obtain rfl : j = ns := by omega
      have HM9 : Hid (Mk B wr m (endXY (nodeP k P) es)) := by
        have := HMk.out
        rw [List.take_of_length_le (by rw [HNS2.out]; omega), ← HQ.out] at this
        exact this
      have HF9 := Lib.hid (HF1.out.trans HFk.out)
      go_wp2_with fail
      go_end0
      exact ⟨rfl, HM9.out, HF9.out⟩
  · have hemp : (kids.drop (i + 1)).isEmpty = false := by
      cases hd : kids.drop (i + 1) with
      | nil => rw [List.drop_eq_nil_iff, HNK.out] at hd; omega
      | cons a b => rfl
    rw [if_neg (by rw [hemp]; simp)] at hst
    have HST := Lib.hid hst
    have hF : ((i : Int) == (nk : Int) - 1) = false := by simp; omega
    have hbd2 : (oneAlt (nodeP k) P).length ≤ 4000 := by
      have h := altP_grows (kids := kids.drop (i + 1)) (fun k hk => HG.out k (List.mem_of_mem_drop hk)) (oneAlt (fun q => nodeP k q) P) (es ++ [(nodeP k (splitP P)).length])
      rw [hst] at h
      exact Nat.le_trans h HBD.out
    rw [oneAlt_len] at hbd2
    have hgp := hgk (splitP P)
    rw [split_len] at hgp
    have HLF := Lib.hid hbd2
    have HLG := Lib.hid hgp
    have HS := Lib.hid (split_any hma (by omega))
    have HFA := Lib.hid (HFI.out.trans hfa)
    have HNA := Lib.hid hnia
    have HNVA := Lib.hid hnva
    have HBK := Lib.hid hbk
    have hel2 : es.length ≤ 1000 := by omega
    obtain ⟨np, hnp⟩ : ∃ np, P.length = np := ⟨_, rfl⟩
    have HNP := Lib.hid hnp
    rw [hnp] at HS HLG
    have HKC := Lib.hid (HKN.out k hmem)
    clear hfa hma hba hnva hnia hgk hmem hemp hcl hst hbd2 hgp hnp hbk hc8
    obtain ⟨f, hf⟩ : ∃ f, nodeP k = f := ⟨_, rfl⟩
    have HKC : Hid (∀ w S v ps, Mk B w m ps → B ≤ w.heap.size → NdV w S v k → (f ps).length ≤ 4000 → Calls Try.prog 40 #[.pointer (some ⟨m, 0, none⟩), v] w fun e w' => e = .returned (.tuple #[]) ∧ Mk B w' m (f ps) ∧ Fr B w w') := fun w S v ps h1 h2 h3 h4 => by
      have := HKC.out B m w S v ps h1 h2 h3 (by rw [hf]; exact h4)
      rw [hf] at this
      exact this
    rw [hf] at HLF HLG HST
    clear hf
    go_wp2_with fail
    refine HS.out.mono ?_
    rintro e1 w1 ⟨rfl, hm1, hf1⟩
    have hfr1 := HFA.out.trans hf1
    have HF1 := Lib.hid hfr1
    have HN1 := Lib.hid (HNA.out.fr hf1)
    have hbk1 := hf1.keep _ _ _ HBK.out (by decide) (by decide)
    have HC := Lib.hid (HKC.out w1 S _ (splitP P) hm1 (Nat.le_trans HB.out hfr1.size) (HNVA.out.fr hf1) (by have := HLF.out; omega))
    have hbl3 := hbk1.lt
    have j0 := hbk1.cell 0
    have j1 := hbk1.cell 1
    have j2 := hbk1.cell 2
    have j3 := hbk1.cell 3
    have j4 := hbk1.cell 4
    simp only [List.getElem?_toArray, List.getElem?_cons_succ, List.getElem?_cons_zero] at j0 j1 j2 j3 j4
    clear hm1 hf1 hfr1 hbk1 HS c0 c1 c2 c3 c4
    go_wp2_with fail
    refine HC.out.mono ?_
    rintro e2 w2 ⟨rfl, hm2, hf2⟩
    have HF2 := Lib.hid (HF1.out.trans hf2)
    have HN2 := Lib.hid (HN1.out.fr hf2)
    have HJ := Lib.hid (jump_any (to := 0) hm2 (by have := HLF.out; omega))
    obtain ⟨ne, hne⟩ : ∃ ne, (f (splitP P)).length = ne := ⟨_, rfl⟩
    have HNE := Lib.hid hne
    rw [hne] at HJ HLF HLG HST
    clear hm2 hf2 HC j0 j1 j2 j3 j4 hne
    go_wp2_with fail
    refine HJ.out.mono ?_
    rintro e3 w3 ⟨rfl, hm3, hf3⟩
    have HF3 := Lib.hid (HF2.out.trans hf3)
    have HN3 := Lib.hid (HN2.out.fr hf3)
    have HM3 := Lib.hid hm3
    have hs3 := HF3.out.size
    have hne4 : ne ≤ 4000 := by have := HLF.out; omega
    clear hm3 hf3 HJ
    go_upto_region 9 with (at_builtin; refine wpList_append_mine _ rfl (.tmp 30) (.tmp 33) _ rfl 3 i0 _ 1 8 Try.underlying38 hi0 hz0 hz1 hz2 rfl (by omega) (.slice A8 es.length c8) es.length (es.map nV) rfl (by exact HN3.out.alloc _) _ 1 1 [_] rfl rfl (by exact news_push rfl rfl) (by simp [Value.oneCell']) (by omega) (by simp only [maxLen]; omega) (by omega) _ rfl ?_; intro g5 o5 c5 w5 hown5 hgrow5 hat5; have HN5 := Lib.hid (ns_snoc hown5); have HF5 := Lib.hid (Fr.grown_ (HF3.out.al (.cells #[.int .i64 (ne : Int)] 3) HB.out) hgrow5 HB.out HKI.out); have HM5 := Lib.hid (Mk.grown_ (HM3.out.under (below_al (Below.refl _ _) (.cells #[.int .i64 (ne : Int)] 3))) (HN3.out.alloc (.cells #[.int .i64 (ne : Int)] 3)) hgrow5); have HK5 := Lib.hid (ns_far (o := o5) (n := es.length + 1) (c := c5) (B := w.heap.size) HKI.out hat5 (by simp; omega)); clear hown5 hgrow5 hat5)
    have hql : (jumpP 0 (f (splitP P))).length = ne + 1 := by rw [jump_len, HNE.out]
    obtain ⟨Q, hQ⟩ : ∃ Q, jumpP 0 (f (splitP P)) = Q := ⟨_, rfl⟩
    have HOA : Hid (oneAlt f P = Q.modify np (setY (Q.length : Int))) := by show _ = _; rw [oneAlt, HNP.out, hQ]
    rw [hQ] at HM5 hql
    obtain ⟨g, off2, c, svs, hA, hc⟩ := HM5.out.form (by omega)
    have hnpq : np < Q.length := by have := HLG.out; omega
    obtain ⟨y0, z0, hml, hgl, -, ⟨u3, c3⟩, -, f3⟩ := hA.cells np hnpq
    have hgm := hA.ne
    obtain ⟨hA2, hF4⟩ := hA.y (i := np) hnpq (Q.length : Int)
    have HA2 : Hid (Mk B (w5.setCell ⟨g, off2 + np * 4 + 3, none⟩ (.int .i64 (Q.length : Int))).drew m (oneAlt f P)) := by show Mk _ _ _ _; rw [HOA.out]; exact hA2.mk_.under (Below.refl _ _).drew
    have HF6 := Lib.hid (HF5.out.trans hF4).drew_
    have HN6 := Lib.hid (HN5.out.fr hF4.drew_)
    have hq41 : Q.length ≤ 4001 := by omega
    clear hA hA2 hF4 hQ hql
    go_region
    go_wp2_with fail
    go_roundw
    case rel => exact ⟨i + 1, oneAlt f P, es ++ [ne], by go_num, by omega, by simp; omega, HA2.out, HN6.out, HK5.out, HF6.out, HST.out⟩
    case measure => simp [intOf] <;> omega
end Go.Proofs.Ytjfkppbfckgckaa
namespace Go.Proofs.Ytjfkppbfckgckaa
set_option maxRecDepth 20000
open Go.RowKit Go.Rb
attribute [local irreducible] Go.wpQuiet

theorem node_all {nd : Nd} (h : OkN nd) : NodeC nd := by
  induction h with
  | mk op mn mx set kids h0 h6 h5 hl hs hk ih =>
    exact node_step (.mk op mn mx set kids h0 h6 h5 hl hs hk) ih fun e => alt_any ih (fun k hk' => nodeP_grows (hk k hk')) (by have := h5 e; omega) hl
/-! ### How long -/
def ulenTop (op mn mx : Int) (n all : Nat) : Nat :=
  if op = 1 ∨ op = 2 ∨ op = 3 then 1 else if op = 4 then all else if op = 5 then all + 2 * (n - 1) else if op = 6 then mn.toNat * all + (if mx < 0 then all + 2 else (mx - mn).toNat * (all + 1)) else 0
mutual
def ulen : Nd → Nat
  | .mk op _ mn mx kids => ulenTop op mn mx kids.length (ulenK kids)
def ulenK : List Nd → Nat
  | [] => 0
  | k :: ks => ulen k + ulenK ks
end
theorem iterP_len {f : List Ins → List Ins} {h : Nat} (hf : ∀ ps, (f ps).length = ps.length + h) : ∀ k ps, (iterP f k ps).length = ps.length + k * h
  | 0, ps => by simp [iterP]
  | k + 1, ps => by rw [iterP, iterP_len hf k, hf, Nat.succ_mul]; omega
theorem manyP_len {f : List Ins → List Ins} {h : Nat} (hf : ∀ ps, (f ps).length = ps.length + h) : ∀ k ps ss, (manyP f k ps ss).1.length = ps.length + k * (h + 1)
  | 0, ps, ss => by simp [manyP]
  | k + 1, ps, ss => by rw [manyP, manyP_len hf k, hf, split_len, Nat.succ_mul]; omega
theorem repP_len {f : List Ins → List Ins} {h : Nat} (hf : ∀ ps, (f ps).length = ps.length + h) (mn mx : Int) (ps : List Ins) : (repP f mn mx ps).length = ps.length + (mn.toNat * h + (if mx < 0 then h + 2 else (mx - mn).toNat * (h + 1))) := by
  rw [repP]
  split
  · rw [starP_len, hf, split_len, iterP_len hf]; omega
  · rw [endY_len, manyP_len hf, iterP_len hf]; omega
theorem nodesP_len {kids : List Nd} (h : ∀ k ∈ kids, ∀ ps, (nodeP k ps).length = ps.length + ulen k) : ∀ ps, (nodesP kids ps).length = ps.length + ulenK kids := by
  induction kids with
  | nil => intro ps; rw [nodesP, ulenK]; rfl
  | cons k ks ih => intro ps; rw [nodesP, ih (fun k hk => h k (by simp [hk])), h k (by simp), ulenK]; omega
theorem altP_len {kids : List Nd} (h : ∀ k ∈ kids, ∀ ps, (nodeP k ps).length = ps.length + ulen k) : ∀ ps es, (altP kids ps es).1.length = ps.length + ulenK kids + 2 * (kids.length - 1) := by
  induction kids with
  | nil => intro ps es; rw [altP, ulenK]; simp
  | cons k ks ih =>
    intro ps es
    rw [altP]
    cases ks with
    | nil => rw [if_pos (show ([] : List Nd).isEmpty = true from rfl), h k (by simp)]; simp [ulenK]
    | cons k2 ks =>
      rw [if_neg (by simp), ih (fun k hk => h k (by simp [hk])), oneAlt_len, h k (by simp), split_len]
      simp only [ulenK, List.length_cons]
      omega
theorem nodeP_len {nd : Nd} (hok : OkN nd) : ∀ ps, (nodeP nd ps).length = ps.length + ulen nd := by
  induction hok with
  | mk op mn mx set kids h0 h6 h5 hl hs hk ih =>
    intro ps
    rw [nodeP, ulen, ulenTop]
    by_cases e1 : op = 1
    · rw [if_pos e1, if_pos (.inl e1)]; simp
    rw [if_neg e1]
    by_cases e2 : op = 2
    · rw [if_pos e2, if_pos (.inr (.inl e2))]; simp
    rw [if_neg e2]
    by_cases e3 : op = 3
    · rw [if_pos e3, if_pos (.inr (.inr e3))]; simp
    rw [if_neg e3, if_neg (show ¬ (op = 1 ∨ op = 2 ∨ op = 3) by omega)]
    by_cases e4 : op = 4
    · rw [if_pos e4, if_pos e4, nodesP_len ih]
    rw [if_neg e4, if_neg e4]
    by_cases e5 : op = 5
    · rw [if_pos e5, if_pos e5, endXY_len, altP_len ih]; omega
    rw [if_neg e5, if_neg e5]
    by_cases e6 : op = 6
    · rw [if_pos e6, if_pos e6]
      obtain ⟨hl1, -⟩ := h6 e6
      cases kids with
      | nil => simp at hl1
      | cons k ks =>
        cases ks with
        | cons => simp at hl1
        | nil =>
          have hh : ∀ ps, (headP [k] ps).length = ps.length + ulenK [k] := fun ps => by rw [headP, ih k (by simp), ulenK, ulenK]; rfl
          rw [repP_len hh]
    rw [if_neg e6, if_neg e6]
    rfl
/-! ### The lengths that are told -/
def CC : Int := 1099511627776
theorem rep_cap {mn mx : Int} {u : Int} (h1 : 0 ≤ mn) (hu : 0 ≤ u) (h3 : mx < 0 ∨ mn ≤ mx) :
    min (mn * min u CC + (if mx < 0 then min u CC + 2 else (mx - mn) * (min u CC + 1))) CC = min (mn * u + (if mx < 0 then u + 2 else (mx - mn) * (u + 1))) CC := by
  by_cases hc : u ≤ CC
  · rw [show min u CC = u by omega]
  · have hc' : CC ≤ u := by omega
    rw [show min u CC = CC by omega]
    have m1 : mn * CC ≤ mn * u := Int.mul_le_mul_of_nonneg_left hc' h1
    have m0 : 0 ≤ mn * CC := Int.mul_nonneg h1 (by decide)
    by_cases hx : mx < 0
    · rw [if_pos hx, if_pos hx]
      have : CC ≤ mn * CC + (CC + 2) := by omega
      have : CC ≤ mn * u + (u + 2) := by omega
      omega
    · rw [if_neg hx, if_neg hx]
      have hle : mn ≤ mx := h3.resolve_left hx
      have m2 : (mx - mn) * (CC + 1) ≤ (mx - mn) * (u + 1) := Int.mul_le_mul_of_nonneg_left (by omega) (by omega)
      have m3 : 0 ≤ (mx - mn) * (CC + 1) := Int.mul_nonneg (by omega) (by decide)
      rcases Int.lt_or_le 0 mn with h | h
      · have : 1 * CC ≤ mn * CC := Int.mul_le_mul_of_nonneg_right (by omega) (by decide)
        omega
      · obtain rfl : mn = 0 := by omega
        rcases Int.lt_or_le 0 mx with h' | h'
        · have : 1 * (CC + 1) ≤ (mx - 0) * (CC + 1) := Int.mul_le_mul_of_nonneg_right (by omega) (by decide)
          omega
        · obtain rfl : mx = 0 := by omega
          simp
theorem lenK_eq {ks : List Nd} (h : ∀ k ∈ ks, lenC k = min (ulen k : Int) CC) : ∀ acc : Int, 0 ≤ acc → lenK ks (min acc CC) = min (acc + (ulenK ks : Int)) CC := by
  induction ks with
  | nil => intro acc h1; rw [lenK, ulenK]; simp
  | cons k ks ih =>
    intro acc h1
    rw [lenK, h k (by simp), ulenK]
    have e : min (min acc CC + min (ulen k : Int) CC) 1099511627776 = min (acc + (ulen k : Int)) CC := by unfold CC; omega
    rw [e, ih (fun k hk => h k (by simp [hk])) _ (by omega)]
    push_cast
    rw [Int.add_assoc]
theorem rlenK_eq {ks : List Nd} (h : ∀ k ∈ ks, rlenC k = min (ulen k : Int) CC) : ∀ acc : Int, ∃ s : Int, rlenK ks acc = acc + s ∧ 0 ≤ s ∧ (s = (ulenK ks : Int) ∨ (CC ≤ s ∧ CC ≤ (ulenK ks : Int))) := by
  induction ks with
  | nil => intro acc; exact ⟨0, by rw [rlenK]; omega, by omega, .inl (by rw [ulenK]; rfl)⟩
  | cons k ks ih =>
    intro acc
    obtain ⟨s, h1, h2, h3⟩ := ih (fun k hk => h k (by simp [hk])) (acc + rlenC k)
    have hk := h k (by simp)
    refine ⟨rlenC k + s, by rw [rlenK, h1]; omega, ?_, ?_⟩
    · rw [hk]; have : (0 : Int) ≤ CC := by decide
      omega
    · rw [ulenK, hk]
      have : (0 : Int) ≤ CC := by decide
      push_cast
      omega
theorem ulenTop6 {mn mx : Int} {n all : Nat} (h1 : 0 ≤ mn) (h3 : mx < 0 ∨ mn ≤ mx) : ((ulenTop 6 mn mx n all : Nat) : Int) = mn * (all : Int) + (if mx < 0 then (all : Int) + 2 else (mx - mn) * ((all : Int) + 1)) := by
  unfold ulenTop
  rw [if_neg (by decide), if_neg (by decide), if_neg (by decide), if_pos rfl]
  push_cast
  rw [Int.toNat_of_nonneg h1]
  by_cases hx : mx < 0
  · rw [if_pos hx, if_pos hx]; push_cast; rfl
  · rw [if_neg hx, if_neg hx]
    push_cast
    rw [Int.toNat_of_nonneg (by have := h3.resolve_left hx; omega)]
theorem lenC_eq {nd : Nd} (hok : OkN nd) : lenC nd = min (ulen nd : Int) CC := by
  induction hok with
  | mk op mn mx set kids h0 h6 h5 hl hs hk ih =>
    have hC : (0 : Int) ≤ CC := by decide
    have hCv : CC = 1099511627776 := rfl
    have hK := lenK_eq ih 0 (by omega)
    rw [show min (0 : Int) CC = 0 by omega, Int.zero_add] at hK
    rw [lenC, ulen, hK, lenTop]
    by_cases e0 : op = 0
    · subst e0; rw [if_pos rfl, show ulenTop 0 mn mx kids.length (ulenK kids) = 0 by simp [ulenTop]]; omega
    rw [if_neg e0]
    by_cases e5 : op = 5
    · subst e5
      have := h5 rfl
      rw [if_pos rfl, ulenTop, if_neg (by decide), if_neg (by decide), if_pos rfl, ← hCv]
      push_cast
      omega
    rw [if_neg e5]
    by_cases e6 : op = 6
    · subst e6
      obtain ⟨_, b1, b2, b3, b4⟩ := h6 rfl
      have h3 : mx < 0 ∨ mn ≤ mx := by omega
      rw [if_pos rfl, ulenTop6 b1 h3, ← rep_cap b1 (by omega) h3, ← hCv]
      congr 1
      split
      · rw [Int.add_mul]; omega
      · rfl
    rw [if_neg e6]
    by_cases e4 : op = 4
    · subst e4
      rw [if_pos rfl, ulenTop, if_neg (by decide), if_pos rfl, ← hCv]
      omega
    rw [if_neg e4, ulenTop, if_pos (by omega)]
    rfl
theorem rlenC_eq {nd : Nd} (hok : OkN nd) : rlenC nd = min (ulen nd : Int) CC := by
  induction hok with
  | mk op mn mx set kids h0 h6 h5 hl hs hk ih =>
    have hC : (0 : Int) ≤ CC := by decide
    have hCv : CC = 1099511627776 := rfl
    rw [rlenC, ulen, rlenTop]
    by_cases e0 : op = 0
    · subst e0; rw [if_pos rfl, show ulenTop 0 mn mx kids.length (ulenK kids) = 0 by simp [ulenTop]]; omega
    rw [if_neg e0]
    by_cases e1 : op = 1 ∨ op = 2 ∨ op = 3
    · rw [if_pos e1, ulenTop, if_pos e1]; rfl
    rw [if_neg e1, ← hCv]
    obtain ⟨s, h1, h2, h3⟩ := rlenK_eq ih 0
    rw [Int.zero_add] at h1
    by_cases e5 : op = 5
    · subst e5
      have := h5 rfl
      rw [if_pos rfl, ulenTop, if_neg (by decide), if_neg (by decide), if_pos rfl, h1]
      push_cast
      omega
    rw [if_neg e5]
    by_cases e6 : op = 6
    · subst e6
      obtain ⟨hl1, b1, b2, b3, b4⟩ := h6 rfl
      have hx : mx < 0 ∨ mn ≤ mx := by omega
      have hs : rlenK kids 0 = min (ulenK kids : Int) CC := by
        cases kids with
        | nil => simp at hl1
        | cons k ks =>
          cases ks with
          | cons => simp at hl1
          | nil => rw [rlenK, rlenK, ih k (by simp), ulenK, ulenK]; simp
      rw [if_pos rfl, ulenTop6 b1 hx, hs, rep_cap b1 (by omega) hx]
    rw [if_neg e6, h1]
    have e4 : op = 4 := by omega
    subst e4
    rw [ulenTop, if_neg (by decide), if_pos rfl]
    omega
theorem okt_of {nd : Nd} (hok : OkN nd) : OKt nd := ⟨hok, node_all hok, fun h => by
  rw [lenC_eq hok] at h
  rw [nodeP_len hok]
  unfold CC at h
  simp only [List.length_nil]
  omega⟩
theorem small_len {nd : Nd} (hok : OkN nd) (h : smallT nd) : (nodeP nd []).length ≤ 150 := by
  have := h.1
  rw [rlenC_eq hok] at this
  rw [nodeP_len hok]
  unfold CC at this
  simp only [List.length_nil]
  omega
/-! ### The instructions -/
def OkI (N : Int) (t : Ins) : Prop := 1 ≤ t.op ∧ t.op ≤ 4 ∧ 0 ≤ t.x ∧ t.x ≤ N ∧ 0 ≤ t.y ∧ t.y ≤ N ∧ t.set.length ≤ 1000
def AllOk (N : Int) (ps : List Ins) : Prop := ∀ t ∈ ps, OkI N t
theorem AllOk.app {N : Int} {ps : List Ins} {t : Ins} (h : AllOk N ps) (ht : OkI N t) : AllOk N (ps ++ [t]) := fun u hu => by
  rcases List.mem_append.1 hu with hu | hu
  · exact h u hu
  · obtain rfl : u = t := by simpa using hu
    exact ht
theorem AllOk.mod {N : Int} {ps : List Ins} (h : AllOk N ps) (i : Nat) (f : Ins → Ins) (hf : ∀ t, OkI N t → OkI N (f t)) : AllOk N (ps.modify i f) := fun u hu => by
  obtain ⟨j, hj⟩ := List.mem_iff_getElem?.1 hu
  rw [List.getElem?_modify] at hj
  cases hp : ps[j]? with
  | none => rw [hp] at hj; simp at hj
  | some t =>
    rw [hp] at hj
    have ht := h t (List.mem_of_getElem? hp)
    simp at hj
    subst hj
    split
    · exact hf t ht
    · exact ht
theorem okI_setX {N v : Int} (h0 : 0 ≤ v) (h1 : v ≤ N) (t : Ins) (h : OkI N t) : OkI N (setX v t) := ⟨h.1, h.2.1, h0, h1, h.2.2.2.2⟩
theorem okI_setY {N v : Int} (h0 : 0 ≤ v) (h1 : v ≤ N) (t : Ins) (h : OkI N t) : OkI N (setY v t) := ⟨h.1, h.2.1, h.2.2.1, h.2.2.2.1, h0, h1, h.2.2.2.2.2.2⟩
theorem AllOk.split {N : Int} {ps : List Ins} (h : AllOk N ps) (hN : (ps.length : Int) + 1 ≤ N) : AllOk N (splitP ps) := h.app ⟨(by decide : (1 : Int) ≤ 2), (by decide : (2 : Int) ≤ 4), (by omega : (0 : Int) ≤ (ps.length : Int) + 1), hN, (by omega : (0 : Int) ≤ 0), (by omega : (0 : Int) ≤ N), Nat.zero_le _⟩
theorem AllOk.jump {N to : Int} {ps : List Ins} (h : AllOk N ps) (hN : (ps.length : Int) + 1 ≤ N) (h0 : 0 ≤ to) (h1 : to ≤ N) : AllOk N (jumpP to ps) :=
  ((h.split hN).mod _ _ (okI_setX h0 h1)).mod _ _ (okI_setY h0 h1)
/-- What keeps instructions right, of a bound. -/
def KeepsI (N : Int) (f : List Ins → List Ins) : Prop := ∀ ps, AllOk N ps → ((f ps).length : Int) ≤ N → AllOk N (f ps)
theorem iterP_keeps {N : Int} {f : List Ins → List Ins} (hg : Grows f) (hf : KeepsI N f) : ∀ k, KeepsI N (iterP f k)
  | 0, ps, h, hN => h
  | k + 1, ps, h, hN => by
    rw [iterP] at hN ⊢
    have h1 := iterP_grows hg k (f ps)
    exact iterP_keeps hg hf k _ (hf ps h (by omega)) hN
theorem manyP_keeps {N : Int} {f : List Ins → List Ins} (hg : Grows f) (hf : KeepsI N f) : ∀ k ps ss, AllOk N ps → (((manyP f k ps ss).1.length : Nat) : Int) ≤ N → AllOk N (manyP f k ps ss).1
  | 0, ps, ss, h, hN => h
  | k + 1, ps, ss, h, hN => by
    rw [manyP] at hN ⊢
    have h1 := manyP_grows hg k (f (splitP ps)) (ss ++ [ps.length])
    have h2 := hg (splitP ps)
    have h3 := split_len ps
    exact manyP_keeps hg hf k _ _ (hf _ (h.split (by omega)) (by omega)) hN
theorem endY_keeps {N : Int} : ∀ (ss : List Nat) (q : List Ins), AllOk N q → (q.length : Int) ≤ N → AllOk N (endY q ss)
  | [], q, h, hN => h
  | s :: ss, q, h, hN => by
    rw [endY, List.foldl_cons, ← endY]
    exact endY_keeps ss _ (h.mod _ _ (okI_setY (by omega) hN)) (by simpa using hN)
theorem endXY_keeps {N : Int} : ∀ (ss : List Nat) (q : List Ins), AllOk N q → (q.length : Int) ≤ N → AllOk N (endXY q ss)
  | [], q, h, hN => h
  | s :: ss, q, h, hN => by
    rw [endXY, List.foldl_cons, ← endXY]
    exact endXY_keeps ss _ ((h.mod _ _ (okI_setX (by omega) hN)).mod _ _ (okI_setY (by omega) hN)) (by simpa using hN)
theorem repP_keeps {N : Int} {f : List Ins → List Ins} (hg : Grows f) (hf : KeepsI N f) (mn mx : Int) : KeepsI N (repP f mn mx) := by
  intro ps h hN
  rw [repP] at hN ⊢
  have h1 := iterP_grows hg mn.toNat ps
  by_cases hx : mx < 0
  · rw [if_pos hx] at hN ⊢
    rw [starP_len] at hN
    have h2 := hg (splitP (iterP f mn.toNat ps))
    have h3 := split_len (iterP f mn.toNat ps)
    have k1 := iterP_keeps hg hf mn.toNat ps h (by omega)
    have k2 := hf _ (k1.split (by omega)) (by omega)
    rw [starP]
    exact (k2.jump (by push_cast at hN; omega) (by omega) (by omega)).mod _ _ (okI_setY (by omega) (by rw [jump_len]; exact hN))
  · rw [if_neg hx] at hN ⊢
    rw [endY_len] at hN
    have h2 := manyP_grows hg (mx - mn).toNat (iterP f mn.toNat ps) []
    exact endY_keeps _ _ (manyP_keeps hg hf _ _ _ (iterP_keeps hg hf mn.toNat ps h (by omega)) hN) hN
theorem oneAlt_keeps {N : Int} {f : List Ins → List Ins} (hg : Grows f) (hf : KeepsI N f) : KeepsI N (oneAlt f) := by
  intro ps h hN
  rw [oneAlt_len] at hN
  have h2 := hg (splitP ps)
  have h3 := split_len ps
  have k2 := hf _ (h.split (by omega)) (by omega)
  rw [oneAlt]
  exact (k2.jump (by push_cast at hN; omega) (by omega) (by omega)).mod _ _ (okI_setY (by omega) (by rw [jump_len]; exact hN))
theorem nodesP_keeps {N : Int} {kids : List Nd} (hg : ∀ k ∈ kids, Grows (nodeP k)) (h : ∀ k ∈ kids, KeepsI N (nodeP k)) : KeepsI N (nodesP kids) := by
  induction kids with
  | nil => intro ps h hN; exact h
  | cons k ks ih =>
    intro ps hp hN
    rw [nodesP] at hN ⊢
    have h1 := nodesP_grows (fun k hk => hg k (by simp [hk])) (kids := ks) (nodeP k ps)
    exact ih (fun k hk => hg k (by simp [hk])) (fun k hk => h k (by simp [hk])) _ (h k (by simp) ps hp (by omega)) hN
theorem altP_keeps {N : Int} {kids : List Nd} (hg : ∀ k ∈ kids, Grows (nodeP k)) (h : ∀ k ∈ kids, KeepsI N (nodeP k)) : ∀ ps es, AllOk N ps → (((altP kids ps es).1.length : Nat) : Int) ≤ N → AllOk N (altP kids ps es).1 := by
  induction kids with
  | nil => intro ps es h hN; exact h
  | cons k ks ih =>
    intro ps es hp hN
    rw [altP] at hN ⊢
    by_cases he : ks.isEmpty = true
    · rw [if_pos he] at hN ⊢
      exact h k (by simp) ps hp hN
    · rw [if_neg he] at hN ⊢
      have h1 := altP_grows (fun k hk => hg k (by simp [hk])) (kids := ks) (oneAlt (fun q => nodeP k q) ps) (es ++ [(nodeP k (splitP ps)).length])
      exact ih (fun k hk => hg k (by simp [hk])) (fun k hk => h k (by simp [hk])) _ _ (oneAlt_keeps (f := fun q => nodeP k q) (hg k (by simp)) (h k (by simp)) ps hp (by omega)) hN
theorem nodeP_keeps {N : Int} {nd : Nd} (hok : OkN nd) : KeepsI N (nodeP nd) := by
  induction hok with
  | mk op mn mx set kids h0 h6 h5 hl hs hk ih =>
    intro ps hp hN
    have hg : ∀ k ∈ kids, Grows (nodeP k) := fun k hk' => nodeP_grows (hk k hk')
    rw [nodeP] at hN ⊢
    by_cases e1 : op = 1
    · rw [if_pos e1] at hN ⊢
      simp at hN
      exact hp.app ⟨(by decide : (1 : Int) ≤ 1), (by decide : (1 : Int) ≤ 4), (by omega : (0 : Int) ≤ (ps.length : Int) + 1), (by omega : (ps.length : Int) + 1 ≤ N), (by omega : (0 : Int) ≤ 0), (by omega : (0 : Int) ≤ N), hs⟩
    rw [if_neg e1] at hN ⊢
    by_cases e2 : op = 2
    · rw [if_pos e2] at hN ⊢
      simp at hN
      exact hp.app ⟨(by decide : (1 : Int) ≤ 3), (by decide : (3 : Int) ≤ 4), (by omega : (0 : Int) ≤ (ps.length : Int) + 1), (by omega : (ps.length : Int) + 1 ≤ N), (by omega : (0 : Int) ≤ 0), (by omega : (0 : Int) ≤ N), Nat.zero_le _⟩
    rw [if_neg e2] at hN ⊢
    by_cases e3 : op = 3
    · rw [if_pos e3] at hN ⊢
      simp at hN
      exact hp.app ⟨(by decide : (1 : Int) ≤ 4), (by decide : (4 : Int) ≤ 4), (by omega : (0 : Int) ≤ (ps.length : Int) + 1), (by omega : (ps.length : Int) + 1 ≤ N), (by omega : (0 : Int) ≤ 0), (by omega : (0 : Int) ≤ N), Nat.zero_le _⟩
    rw [if_neg e3] at hN ⊢
    by_cases e4 : op = 4
    · rw [if_pos e4] at hN ⊢
      exact nodesP_keeps hg ih ps hp hN
    rw [if_neg e4] at hN ⊢
    by_cases e5 : op = 5
    · rw [if_pos e5] at hN ⊢
      rw [endXY_len] at hN
      exact endXY_keeps _ _ (altP_keeps hg ih ps [] hp hN) hN
    rw [if_neg e5] at hN ⊢
    by_cases e6 : op = 6
    · rw [if_pos e6] at hN ⊢
      obtain ⟨hl1, -⟩ := h6 e6
      cases kids with
      | nil => simp at hl1
      | cons k ks =>
        exact repP_keeps (f := fun q => headP (k :: ks) q) (fun q => hg k (by simp) q) (fun q => ih k (by simp) q) mn mx ps hp hN
    rw [if_neg e6] at hN ⊢
    exact hp
/-- The program of a tree is right. -/
theorem nodeP_right {nd : Nd} (hok : OkN nd) : RightI (nodeP nd [] ++ [⟨0, [], 0, 0⟩]) ∧ ∀ (i : Nat) (t : Ins), (nodeP nd [] ++ [(⟨0, [], 0, 0⟩ : Ins)])[i]? = some t → t.set.length ≤ 1000 := by
  have key := nodeP_keeps (N := ((nodeP nd []).length : Int)) hok [] (fun t ht => by simp at ht) (by omega)
  have all : ∀ (i : Nat) (t : Ins), (nodeP nd [] ++ [(⟨0, [], 0, 0⟩ : Ins)])[i]? = some t → OkI ((nodeP nd []).length : Int) t ∨ t = ⟨0, [], 0, 0⟩ := fun i t hi => by
    rcases List.mem_append.1 (List.mem_of_getElem? hi) with h | h
    · exact .inl (key t h)
    · exact .inr (by simpa using h)
  refine ⟨fun i t hi => ?_, fun i t hi => ?_⟩
  · rw [List.length_append, List.length_singleton]
    rcases all i t hi with h | rfl
    · obtain ⟨h1, h2, h3, h4, h5, h6, -⟩ := h
      exact ⟨by omega, h2, fun _ => ⟨h3, by push_cast; omega⟩, fun _ => ⟨h5, by push_cast; omega⟩⟩
    · exact ⟨by decide, by decide, fun h => absurd rfl h, fun h => absurd h (by decide)⟩
  · rcases all i t hi with h | rfl
    · exact h.2.2.2.2.2.2
    · simp
end Go.Proofs.Ytjfkppbfckgckaa
