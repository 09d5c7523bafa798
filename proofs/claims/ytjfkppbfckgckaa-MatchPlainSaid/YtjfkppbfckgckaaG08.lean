/-
  the contract of prog's rep, given its kid's; the contract of prog's node, given alt's; the contract of prog.Compile, given node's; programs as they lie in memory, and the contract of reedbedref10.Right; no condition beyond those that each theorem states.
-/
import Derived.Test.YtjfkppbfckgckaaG07
import Derived.Deep.Cut
import Derived.Test.YtjfkppbfckgckaaG01
import Derived.Handy
set_option linter.unusedVariables false
set_option linter.unusedSimpArgs false
namespace Go.Proofs.Ytjfkppbfckgckaa
set_option maxRecDepth 20000
open Go.RowKit Go.Rb
attribute [local irreducible] Go.wpQuiet

theorem infoInt : (Try.prog.info? 3).map (fun i => (i.zero, i.size, i.bytes)) = some (some (.int .i64 0), 1, 8) := by kernel_rfl
def nV (n : Nat) : Value := .int .i64 (n : Int)
/-- A slice of numbers of the call's own. -/
def NsO (w : World) (v : Value) (ss : List Nat) : Prop := Own w 3 1 v ss.length (ss.map nV)
theorem Fr.grown_ {B : Nat} {w0 wr w' : World} {ob : Option Nat} (h : Fr B w0 wr) (hg : wr.grownBy w' ob) (hB : B ≤ w0.heap.size) (hk : ∀ k, ob = some k → w0.heap.size ≤ k) : Fr B w0 w' := by
  refine ⟨Below.grown h.below hg (Nat.le_trans hB h.size) (fun k hk1 => Nat.le_trans hB (hk k hk1)), fun k cs t hb h1 h2 => ?_⟩
  have h3 := h.keep k cs t hb h1 h2
  refine h3.grown hg fun e => ?_
  have := hk k e.symm
  have := hb.lt
  omega
theorem Mk.grown_ {B m : Nat} {w w' : World} {ps : List Ins} {v : Value} {n : Nat} {xs : List Value} (h : Mk B w m ps) (hv : Own w 3 1 v n xs) (hg : w.grownBy w' v.ownBlock) : Mk B w' m ps := by
  obtain ⟨h0, sl, svs, h1, h2, h3, h4, h5⟩ := h
  refine ⟨h0, sl, svs, h1.grown hg (fun e => own_ne_blk_ hv h1 (by decide) e.symm), h2, h3, Own.grown h4 hg (fun k hk e => own_ne_ h4 hv (by decide) hk e), fun i t hi => ?_⟩
  obtain ⟨sv, e, hs⟩ := h5 i t hi
  exact ⟨sv, e, Own.grown hs hg fun k hk e => own_ne_ hs hv (by decide) hk e⟩
theorem Fr.al {B : Nat} {w0 wr : World} (h : Fr B w0 wr) (o : Obj) (hB : B ≤ w0.heap.size) : Fr B w0 (wr.alloc o) := h.trans (Fr.of_below (below_al (Below.refl _ _) _) (Nat.le_trans hB h.size))
theorem ns_snoc {w : World} {v : Value} {ss : List Nat} {s : Nat} (h : Own w 3 1 v (ss.length + 1) (ss.map nV ++ [.int .i64 (s : Int)])) : NsO w v (ss ++ [s]) := by
  unfold NsO
  rw [List.length_append, List.map_append]
  exact h
theorem ns_far {v : Value} {g H B o n c : Nat} (hk : ∀ k, v.ownBlock = some k → B ≤ k) (h : v.ownBlock = some g ∨ g = H) (hH : B ≤ H) : ∀ k, (Value.slice (some ⟨g, o, none⟩) n c).ownBlock = some k → B ≤ k := by
  intro k e
  have e2 : g = k := by simpa [Value.ownBlock] using e
  subst e2
  rcases h with h | h
  · exact hk _ h
  · omega
theorem NsO.fr {B : Nat} {w w' : World} {v : Value} {ss : List Nat} (h : NsO w v ss) (hf : Fr B w w') : NsO w' v ss := Own.fr h hf (by decide) (by decide)
theorem manyP_succ (f : List Ins → List Ins) (k : Nat) : ∀ ps ss, manyP f (k + 1) ps ss = (f (splitP (manyP f k ps ss).1), (manyP f k ps ss).2 ++ [(manyP f k ps ss).1.length]) := by
  induction k with
  | zero => intro ps ss; rfl
  | succ k ih => intro ps ss; rw [manyP, ih]; rfl
theorem manyP_slen (f : List Ins → List Ins) (k : Nat) : ∀ ps ss, (manyP f k ps ss).2.length = ss.length + k := by
  induction k with
  | zero => intro ps ss; rfl
  | succ k ih => intro ps ss; rw [manyP, ih]; simp; omega
theorem manyP_lt {f : List Ins → List Ins} (hf : Grows f) (k : Nat) : ∀ ps ss, (∀ s ∈ ss, s < ps.length) → ∀ s ∈ (manyP f k ps ss).2, s < (manyP f k ps ss).1.length := by
  induction k with
  | zero => intro ps ss h; exact h
  | succ k ih =>
    intro ps ss h
    rw [manyP]
    refine ih _ _ fun s hs => ?_
    have h1 := hf (splitP ps)
    rw [split_len] at h1
    rcases List.mem_append.1 hs with hs | hs
    · have := h s hs; omega
    · obtain rfl : s = ps.length := by simpa using hs
      omega
theorem manyP_le {f : List Ins → List Ins} (hf : Grows f) (ps : List Ins) (ss : List Nat) {i k : Nat} (h : i ≤ k) : (manyP f i ps ss).1.length ≤ (manyP f k ps ss).1.length := by
  induction h with
  | refl => exact Nat.le_refl _
  | step h ih =>
    rw [manyP_succ]
    refine Nat.le_trans ih ?_
    exact Nat.le_trans (Nat.le_of_lt (by rw [split_len]; exact Nat.lt_succ_self _)) (hf (splitP _))
theorem endY_snoc (q : List Ins) (ss : List Nat) (s : Nat) : endY q (ss ++ [s]) = (endY q ss).modify s (setY ((endY q ss).length : Int)) := by
  rw [endY, List.foldl_append, ← endY]; rfl
theorem endXY_snoc (q : List Ins) (ss : List Nat) (s : Nat) : endXY q (ss ++ [s]) = ((endXY q ss).modify s (setX ((endXY q ss).length : Int))).modify s (setY ((endXY q ss).length : Int)) := by
  rw [endXY, List.foldl_append, ← endXY]; rfl
theorem take_snoc {ss : List Nat} {i : Nat} {s : Nat} (hi : ss[i]? = some s) : ss.take (i + 1) = ss.take i ++ [s] := by
  rw [List.take_add_one, hi]; rfl
theorem rep_ge {f : List Ins → List Ins} (hf : Grows f) (ps : List Ins) (mn mx : Int) : (iterP f mn.toNat ps).length ≤ (repP f mn mx ps).length := by
  rw [repP]
  split
  · rw [starP_len]
    have := hf (splitP (iterP f mn.toNat ps))
    rw [split_len] at this
    omega
  · rw [endY_len]
    exact manyP_grows hf _ _ _
set_option maxRecDepth 20000 in
set_option maxHeartbeats 4000000 in
theorem rep_any {kid : Nd} (hk : NodeC kid) (hg : Grows (nodeP kid)) {B m : Nat} {w : World} {S : Nat → Prop} {v : Value} {ps : List Ins} {set : List (Int × Int)} {mn mx : Int} (hM : Mk B w m ps) (hB : B ≤ w.heap.size) (hv : NdV w S v (.mk 6 set mn mx [kid])) (h0 : 0 ≤ mn) (h50 : mn ≤ 50) (hx50 : mx ≤ 50) (hx : mx = -1 ∨ mn ≤ mx)
    (hb : (repP (nodeP kid) mn mx ps).length ≤ 4000) :
    Calls Try.prog 57 #[.pointer (some ⟨m, 0, none⟩), v] w fun e w' => e = .returned (.tuple #[]) ∧ Mk B w' m (repP (nodeP kid) mn mx ps) ∧ Fr B w w' := by
  obtain ⟨i0, hi0, hz0, hz1, hz2⟩ := info_parts infoInt
  obtain ⟨A1, m1, A4, m4, rfl, hm4, hset, hkid⟩ := hv.kids
  obtain ⟨b, off, x0, A5, n5, m5, x2, x3, A6, n6, m6, rfl, hbl, hnv, c0, c1, c2, c3, c4⟩ := hkid w (Below.refl _ _) 0 kid rfl
  simp only [Nat.zero_mul, Nat.add_zero] at c0 c1 c2 c3 c4
  obtain ⟨q, rfl⟩ : ∃ q : Nat, mn = (q : Int) := ⟨mn.toNat, by omega⟩
  obtain ⟨f, hf⟩ : ∃ f, nodeP kid = f := ⟨_, rfl⟩
  have HC : Hid (∀ (w : World) (ps : List Ins), Mk B w m ps → B ≤ w.heap.size → NdV w S (.agg #[.int .i64 x0, .slice A5 n5 m5, .int .i64 x2, .int .i64 x3, .slice A6 n6 m6]) kid → (f ps).length ≤ 4000 →
      Calls Try.prog 40 #[.pointer (some ⟨m, 0, none⟩), .agg #[.int .i64 x0, .slice A5 n5 m5, .int .i64 x2, .int .i64 x3, .slice A6 n6 m6]] w fun e w' => e = .returned (.tuple #[]) ∧ Mk B w' m (f ps) ∧ Fr B w w') := by
    intro w ps h1 h2 h3 h4
    have := hk B m w S _ ps h1 h2 h3 (by rw [hf]; exact h4)
    rwa [hf] at this
  rw [hf] at hg hb ⊢
  have HG := Lib.hid hg
  have HB := Lib.hid hB
  have HM := Lib.hid hM
  have HV := Lib.hid hnv
  obtain ⟨R, hR⟩ : ∃ R, repP f (q : Int) mx ps = R := ⟨_, rfl⟩
  rw [hR] at hb ⊢
  have HR := Lib.hid hR
  have HBD := Lib.hid hb
  clear hk hf hM hB hv hset hkid hg hb hR hnv
  unfold ndV
  go_enter Try.func57, Try.ntmps57
  go_upto_region 2 with fail
  have hfr0 : Fr B w ((w.alloc (.cells #[.int .i64 6, .slice A1 set.length m1, .int .i64 (q : Int), .int .i64 mx, .slice (some ⟨b, off, none⟩) 1 m4] 52)).alloc (.cells #[.int .i64 x0, .slice A5 n5 m5, .int .i64 x2, .int .i64 x3, .slice A6 n6 m6] 52)) := Fr.of_below ((below_al (Below.refl _ _) _).alloc (by simp) _) HB.out
  have hm0 := HM.out.under (((below_al (Below.refl _ w) (.cells #[.int .i64 6, .slice A1 set.length m1, .int .i64 (q : Int), .int .i64 mx, .slice (some ⟨b, off, none⟩) 1 m4] 52)).alloc (by simp) (.cells #[.int .i64 x0, .slice A5 n5 m5, .int .i64 x2, .int .i64 x3, .slice A6 n6 m6] 52)))
  have hbx : Blk ((w.alloc (.cells #[.int .i64 6, .slice A1 set.length m1, .int .i64 (q : Int), .int .i64 mx, .slice (some ⟨b, off, none⟩) 1 m4] 52)).alloc (.cells #[.int .i64 x0, .slice A5 n5 m5, .int .i64 x2, .int .i64 x3, .slice A6 n6 m6] 52)) w.heap.size 52 #[.int .i64 6, .slice A1 set.length m1, .int .i64 (q : Int), .int .i64 mx, .slice (some ⟨b, off, none⟩) 1 m4] := (Blk.new _ _ _).alloc _
  have hbk : Blk ((w.alloc (.cells #[.int .i64 6, .slice A1 set.length m1, .int .i64 (q : Int), .int .i64 mx, .slice (some ⟨b, off, none⟩) 1 m4] 52)).alloc (.cells #[.int .i64 x0, .slice A5 n5 m5, .int .i64 x2, .int .i64 x3, .slice A6 n6 m6] 52)) (w.heap.size + 1) 52 #[.int .i64 x0, .slice A5 n5 m5, .int .i64 x2, .int .i64 x3, .slice A6 n6 m6] := by
    have := Blk.new (w.alloc (.cells #[.int .i64 6, .slice A1 set.length m1, .int .i64 (q : Int), .int .i64 mx, .slice (some ⟨b, off, none⟩) 1 m4] 52)) 52 #[.int .i64 x0, .slice A5 n5 m5, .int .i64 x2, .int .i64 x3, .slice A6 n6 m6]
    simpa using this
  have hnv0 := HV.out.under (((below_al (Below.refl _ w) (.cells #[.int .i64 6, .slice A1 set.length m1, .int .i64 (q : Int), .int .i64 mx, .slice (some ⟨b, off, none⟩) 1 m4] 52)).alloc (by simp) (.cells #[.int .i64 x0, .slice A5 n5 m5, .int .i64 x2, .int .i64 x3, .slice A6 n6 m6] 52)))
  generalize (w.alloc (.cells #[.int .i64 6, .slice A1 set.length m1, .int .i64 (q : Int), .int .i64 mx, .slice (some ⟨b, off, none⟩) 1 m4] 52)).alloc (.cells #[.int .i64 x0, .slice A5 n5 m5, .int .i64 x2, .int .i64 x3, .slice A6 n6 m6] 52) = w0 at hfr0 hm0 hbx hbk hnv0 ⊢
  have hs0 := hbk.lt
  have HFR0 := Lib.hid hfr0
  have HM0 := Lib.hid hm0
  have HBX := Lib.hid hbx
  have HBK := Lib.hid hbk
  have HNV : Hid (NdV w0 S (.agg #[.int .i64 x0, .slice A5 n5 m5, .int .i64 x2, .int .i64 x3, .slice A6 n6 m6]) kid) := hnv0
  have HB0 : Hid (B ≤ w0.heap.size) := Nat.le_trans HB.out hfr0.size
  have HBI : Hid (∀ i, i ≤ q → (iterP f i ps).length ≤ 4000) := fun i hi => by
    have h1 := iterP_le HG.out ps hi
    have h2 := rep_ge HG.out ps (q : Int) mx
    rw [Int.toNat_natCast, HR.out] at h2
    exact Nat.le_trans h1 (Nat.le_trans h2 HBD.out)
  have y0 := hbx.cell 2
  have y1 := hbx.cell 3
  simp only [List.getElem?_toArray, List.getElem?_cons_succ, List.getElem?_cons_zero] at y0 y1
  have hx1 := hbx.lt
  clear hfr0 hm0 hbx hbk hnv0 c0 c1 c2 c3 c4 HV HM hm4 hbl
  obtain ⟨bx, hbxe⟩ : ∃ bx, w.heap.size = bx := ⟨_, rfl⟩
  have HBXE := Lib.hid hbxe
  rw [hbxe] at y0 y1 hx1 hs0 HBX HBK ⊢
  clear hbxe
  go_wp2_with fail
  go_loopw [15] (fun iv wr => ∃ i : Nat, iv = .int .i64 (i : Int) ∧ i ≤ q ∧ Hid (Mk B wr m (iterP f i ps)) ∧ Hid (Fr B w0 wr)) (fun iv _ => q - (intOf iv).toNat)
  case atStart => exact ⟨0, rfl, by omega, HM0.out, Fr.refl _ _⟩
  case round =>
  obtain ⟨i, rfl, hiq, HMI, HFI⟩ := hrel
  have hsw := HFI.out.size
  have hbk := HFI.out.keep _ _ _ HBK.out (by decide) (by decide)
  have hbx := HFI.out.keep _ _ _ HBX.out (by decide) (by decide)
  have hbl1 := hbk.lt
  have hbl2 := hbx.lt
  have k0 := hbk.cell 0
  have k1 := hbk.cell 1
  have k2 := hbk.cell 2
  have k3 := hbk.cell 3
  have k4 := hbk.cell 4
  have b2 := hbx.cell 2
  have b3 := hbx.cell 3
  simp only [List.getElem?_toArray, List.getElem?_cons_succ, List.getElem?_cons_zero] at k0 k1 k2 k3 k4 b2 b3
  clear hbk hbx y0 y1
  by_cases hi : i < q
  · have HCC := Lib.hid (HC.out wr (iterP f i ps) HMI.out (Nat.le_trans HB0.out hsw) (HNV.out.fr HFI.out) (by rw [← iterP_succ f]; exact HBI.out (i + 1) hi))
    go_wp2_with fail
    refine HCC.out.mono ?_
    rintro e1 w1 ⟨rfl, hm1, hf1⟩
    have HM1 : Hid (Mk B w1 m (iterP f (i + 1) ps)) := by show Mk _ _ _ _; rw [iterP_succ]; exact hm1
    have HF1 := Lib.hid (HFI.out.trans hf1)
    clear hm1 hf1 HCC
    go_wp2_with fail
    go_roundw
    case rel => exact ⟨i + 1, by go_num, by omega, HM1.out, HF1.out⟩
    case measure => simp [intOf] <;> omega
  · obtain rfl : i = q := by omega
    have HL1 := Lib.hid (HBI.out i (Nat.le_refl _))
    by_cases hneg : mx < 0
    · have HR2 : Hid (R = starP f (iterP f i ps)) := by show _ = _; rw [← HR.out, repP, if_pos hneg, Int.toNat_natCast]
      obtain ⟨P, hP⟩ : ∃ P, iterP f i ps = P := ⟨_, rfl⟩
      rw [hP] at HMI HR2 HL1
      have HS := Lib.hid (split_any HMI.out (Nat.le_trans HL1.out (by omega)))
      have HLF : Hid ((f (splitP P)).length + 1 ≤ 4000) := by show _ ≤ _; rw [← starP_len, ← HR2.out]; exact HBD.out
      have HLG : Hid (P.length + 1 ≤ (f (splitP P)).length) := by have := HG.out (splitP P); rw [split_len] at this; exact this
      obtain ⟨np, hnp⟩ : ∃ np, P.length = np := ⟨_, rfl⟩
      have HNP := Lib.hid hnp
      rw [hnp] at HS HLG HL1
      clear hP hnp HBI
      go_wp2_with fail
      refine HS.out.mono ?_
      rintro e1 w1 ⟨rfl, hm1, hf1⟩
      have hfr1 := HFI.out.trans hf1
      have HF1 := Lib.hid hfr1
      have HCC := Lib.hid (HC.out w1 (splitP P) hm1 (Nat.le_trans HB0.out hfr1.size) (HNV.out.fr hfr1) (by have := HLF.out; omega))
      have hbk := hfr1.keep _ _ _ HBK.out (by decide) (by decide)
      have hbl3 := hbk.lt
      have j0 := hbk.cell 0
      have j1 := hbk.cell 1
      have j2 := hbk.cell 2
      have j3 := hbk.cell 3
      have j4 := hbk.cell 4
      simp only [List.getElem?_toArray, List.getElem?_cons_succ, List.getElem?_cons_zero] at j0 j1 j2 j3 j4
      clear hm1 hf1 hfr1 hbk HS
      go_wp2_with fail
      refine HCC.out.mono ?_
      rintro e2 w2 ⟨rfl, hm2, hf2⟩
      have HF2 := Lib.hid (HF1.out.trans hf2)
      have HJ := Lib.hid (jump_any (to := (np : Int)) hm2 (by have := HLF.out; omega))
      clear hm2 hf2 HCC j0 j1 j2 j3 j4
      go_wp2_with fail
      refine HJ.out.mono ?_
      rintro e3 w3 ⟨rfl, hm3, hf3⟩
      have HF3 := Lib.hid (HF2.out.trans hf3)
      have HQ : Hid (R = (jumpP (np : Int) (f (splitP P))).modify np (setY ((jumpP (np : Int) (f (splitP P))).length : Int))) := by show _ = _; rw [HR2.out, starP, HNP.out]
      have hql : (jumpP (np : Int) (f (splitP P))).length = (f (splitP P)).length + 1 := jump_len _ _
      obtain ⟨Q, hQ⟩ : ∃ Q, jumpP (np : Int) (f (splitP P)) = Q := ⟨_, rfl⟩
      rw [hQ] at hm3 HQ hql
      obtain ⟨g, off2, c, svs, hA, hc⟩ := hm3.form (by omega)
      have hnpq : np < Q.length := by have := HLG.out; omega
      obtain ⟨y0, z0, hml, hgl, -, ⟨u3, c3⟩, -, f3⟩ := hA.cells np hnpq
      have hgm := hA.ne
      obtain ⟨hA2, hF4⟩ := hA.y (i := np) hnpq (Q.length : Int)
      have HA2 := Lib.hid (hA2.mk_.under (Below.refl _ _).drew)
      have HF4 := Lib.hid (HFR0.out.trans (HF3.out.trans hF4))
      have hq4 : Q.length ≤ 4000 := by have := HLF.out; omega
      clear hA hA2 hF4 hm3 hf3 HJ hQ hql b2 b3 k0 k1 k2 k3 k4
      go_upto_region 10 with fail
      go_region
      go_wp2_with fail
      go_returns
      exact ⟨rfl, by rw [HQ.out]; exact HA2.out, HF4.out.drew_⟩
    · obtain ⟨D, hD⟩ : ∃ D : Nat, mx - (i : Int) = (D : Int) := ⟨(mx - (i : Int)).toNat, by omega⟩
      have hD50 : D ≤ 50 := by omega
      have HR2 : Hid (R = endY (manyP f D (iterP f i ps) []).1 (manyP f D (iterP f i ps) []).2) := by show _ = _; rw [← HR.out, repP, if_neg hneg, Int.toNat_natCast, hD, Int.toNat_natCast]
      obtain ⟨P, hP⟩ : ∃ P, iterP f i ps = P := ⟨_, rfl⟩
      rw [hP] at HMI HR2 HL1
      have HMB : Hid (∀ j, j ≤ D → (manyP f j P []).1.length ≤ 4000) := fun j hj => by
        have h1 := manyP_le HG.out P [] hj
        have h2 := HBD.out
        rw [HR2.out, endY_len] at h2
        omega
      have HNS : Hid (∀ j, (manyP f j P []).2.length = j) := fun j => by rw [manyP_slen]; simp
      have HDD := Lib.hid hD
      clear hP HBI
      go_wp2_with fail
      clear hD
      go_loopw [6, 49] (fun v6 iv wr => ∃ j : Nat, iv = .int .i64 (j : Int) ∧ j ≤ D ∧ Hid (Mk B wr m (manyP f j P []).1) ∧ Hid (NsO wr v6 (manyP f j P []).2) ∧ Hid (∀ k, v6.ownBlock = some k → w0.heap.size ≤ k) ∧ Hid (Fr B w0 wr)) (fun _ iv _ => D - (intOf iv).toNat)
      case atStart => exact ⟨0, rfl, by omega, HMI.out, Own.nil_ _ _ _, by simp [Hid, Value.ownBlock], HFI.out⟩
      case round =>
      obtain ⟨j, rfl, hjD, HMj, HNj, HKj, HFj⟩ := hrel
      have hsj := HFj.out.size
      have hbk := HFj.out.keep _ _ _ HBK.out (by decide) (by decide)
      have hblj := hbk.lt
      by_cases hj : j < D
      · obtain ⟨P2, hP2⟩ : ∃ P2, manyP f j P [] = P2 := ⟨_, rfl⟩
        have hP3 := manyP_succ f j P []
        have hlj := HMB.out j hjD
        have hlj1 := HMB.out (j + 1) hj
        have hnj := HNS.out j
        rw [hP2] at HMj HNj hP3 hlj hnj
        rw [hP3] at hlj1
        obtain ⟨Q, ss⟩ := P2
        simp only at HMj HNj hP3 hlj hnj hlj1
        have HLF : Hid ((f (splitP Q)).length ≤ 4000) := hlj1
        have HS := Lib.hid (split_any HMj.out (by omega))
        have HP3 := Lib.hid hP3
        obtain ⟨nq, hnq⟩ : ∃ nq, Q.length = nq := ⟨_, rfl⟩
        have HNQ := Lib.hid hnq
        obtain ⟨A8, c8, rfl, hc8, -⟩ := HNj.out.len_
        have hss : ss.length ≤ 50 := by omega
        have hssl := Lib.hid hnj
        rw [hnq] at HS
        have hq4 : nq ≤ 4000 := by omega
        clear hP2 hP3 hnq hnj hlj hlj1 hbk hc8 k0 k1 k2 k3 k4 b2 b3 hbl1 hbl2
        go_wp2_with fail
        refine HS.out.mono ?_
        rintro e1 w1 ⟨rfl, hm1, hf1⟩
        have HFj1 := Lib.hid (HFj.out.trans hf1)
        have HMj1 := Lib.hid hm1
        have HNj1 := Lib.hid (HNj.out.fr hf1)
        have hs1 := hf1.size
        clear hm1 hf1 HS
        go_wp2_with (at_builtin; refine wpList_append_mine _ rfl (.tmp 51) (.tmp 54) _ rfl 3 i0 _ 1 8 Try.underlying38 hi0 hz0 hz1 hz2 rfl (by omega) (.slice A8 ss.length c8) ss.length (ss.map nV) rfl (by exact HNj1.out.alloc _) _ 1 1 [_] rfl rfl (by exact news_push rfl rfl) (by simp [Value.oneCell']) (by omega) (by simp only [maxLen]; omega) (by omega) _ rfl ?_; intro g5 o5 c5 w5 hown5 hgrow5 hat5; have HN5 := Lib.hid (ns_snoc hown5); have HF5 := Lib.hid (Fr.grown_ (HFj1.out.al (.cells #[.int .i64 (nq : Int)] 3) HB0.out) hgrow5 HB0.out HKj.out); have HM5 := Lib.hid (Mk.grown_ (HMj1.out.under (below_al (Below.refl _ _) (.cells #[.int .i64 (nq : Int)] 3))) (HNj1.out.alloc (.cells #[.int .i64 (nq : Int)] 3)) hgrow5); have HK5 := Lib.hid (ns_far (o := o5) (n := ss.length + 1) (c := c5) (B := w0.heap.size) HKj.out hat5 (by simp; omega)); have hbk5 := HF5.out.keep _ _ _ HBK.out (by decide) (by decide); have hbl5 := hbk5.lt; have j0 := hbk5.cell 0; have j1 := hbk5.cell 1; have j2 := hbk5.cell 2; have j3 := hbk5.cell 3; have j4 := hbk5.cell 4; simp only [List.getElem?_toArray, List.getElem?_cons_succ, List.getElem?_cons_zero] at j0 j1 j2 j3 j4; clear hown5 hgrow5 hat5 hbk5)
        refine (HC.out w5 (splitP Q) HM5.out (Nat.le_trans HB0.out HF5.out.size) (HNV.out.fr HF5.out) HLF.out).mono ?_
        rintro e2 w2 ⟨rfl, hm2, hf2⟩
        have HM2 : Hid (Mk B w2 m (manyP f (j + 1) P []).1) := by show Mk _ _ _ _; rw [HP3.out]; exact hm2
        have HN2 : Hid (NsO w2 (.slice (some ⟨g5, o5, none⟩) (ss.length + 1) c5) (manyP f (j + 1) P []).2) := by show NsO _ _ _; rw [HP3.out, HNQ.out]; exact HN5.out.fr hf2
        have HF2 := Lib.hid (HF5.out.trans hf2)
        clear hm2 hf2 j0 j1 j2 j3 j4
        go_wp2_with fail
        go_roundw
        case rel => exact ⟨j + 1, by go_num, by omega, HM2.out, HN2.out, HK5.out, HF2.out⟩
        case measure => simp [intOf] <;> omega
      · obtain rfl : j = D := by omega
        obtain ⟨P2, hP2⟩ : ∃ P2, manyP f j P [] = P2 := ⟨_, rfl⟩
        have hlj := HMB.out j (Nat.le_refl _)
        have hnj := HNS.out j
        have hlt := manyP_lt HG.out j P [] (by simp)
        rw [hP2] at HMj HNj hlj hnj HR2 hlt
        obtain ⟨Q, ss⟩ := P2
        simp only at HMj HNj hlj hnj HR2 hlt
        have HLT := Lib.hid hlt
        have HLQ := Lib.hid hlj
        obtain ⟨A8, c8, rfl, hc8, -⟩ := HNj.out.len_
        have hrd := Own.rd HNj.out
        have HRD := Lib.hid hrd
        obtain ⟨ns, hns⟩ : ∃ ns, ss.length = ns := ⟨_, rfl⟩
        have HNS2 := Lib.hid hns
        rw [hns] at hc8 HRD hrd hnj ⊢
        have hns50 : ns ≤ 50 := by omega
        clear hP2 hnj hlj hbk hns hlt k0 k1 k2 k3 k4 b2 b3 hbl1 hbl2 hrd
        go_wp2_with fail
        go_loopw [62] (fun iv wx => ∃ k : Nat, iv = .int .i64 (k : Int) ∧ k ≤ ns ∧ Hid (Mk B wx m (endY Q (ss.take k))) ∧ Hid (Fr B wr wx)) (fun iv _ => ns - (intOf iv).toNat)
        case atStart => exact ⟨0, rfl, by omega, HMj.out, Fr.refl _ _⟩
        case round =>
        obtain ⟨k, rfl, hkn, HMk, HFk⟩ := hrel
        by_cases hk : k < ns
        · have hcl : k < ss.length := by rw [HNS2.out]; exact hk
          obtain ⟨s, hsk⟩ : ∃ s, ss[k]? = some s := ⟨_, List.getElem?_eq_getElem hcl⟩
          have hsq := HLT.out s (List.mem_of_getElem? hsk)
          obtain ⟨b8, o8, rfl, hb8, hcell⟩ := HRD.out.2 (by omega)
          have cs := hcell k (by omega)
          rw [List.getElem?_map, hsk] at cs
          have cs2 : wr.cell? ⟨b8, o8 + k, none⟩ = some (.int .i64 (s : Int)) := by
            have hfx := Own.fr HNj.out HFk.out (by decide) (by decide)
            obtain ⟨b9, o9, e9, -, hc9⟩ := hfx.rd.2 (by omega)
            simp only [Option.some.injEq, Addr.mk.injEq, and_true] at e9
            obtain ⟨rfl, rfl⟩ := e9
            have := hc9 k (by rw [HNS2.out]; omega)
            rw [List.getElem?_map, hsk] at this
            exact this
          have hbx8 : b8 < wr.heap.size := Nat.lt_of_lt_of_le hb8 HFk.out.size
          have HT : Hid (ss.take (k + 1) = ss.take k ++ [s]) := take_snoc hsk
          have hql : (endY Q (ss.take k)).length = Q.length := endY_len _ _
          have hE := endY_snoc Q (ss.take k) s
          rw [← take_snoc hsk] at hE
          have HE := Lib.hid hE
          have hq4 : (endY Q (ss.take k)).length ≤ 4000 := by rw [hql]; exact HLQ.out
          have hsq2 : s < (endY Q (ss.take k)).length := by rw [hql]; exact hsq
          obtain ⟨Z, hZ⟩ : ∃ Z, endY Q (ss.take k) = Z := ⟨_, rfl⟩
          rw [hZ] at HMk HE hq4 hsq2
          obtain ⟨g, off2, c, svs, hA, hc⟩ := HMk.out.form (by omega)
          obtain ⟨y0, z0, hml, hgl, -, ⟨u3, c3⟩, -, f3⟩ := hA.cells s hsq2
          have hgm := hA.ne
          obtain ⟨hA2, hF4⟩ := hA.y (i := s) hsq2 (Z.length : Int)
          have HA2 : Hid (Mk B (wr.setCell ⟨g, off2 + s * 4 + 3, none⟩ (.int .i64 (Z.length : Int))).drew m (endY Q (ss.take (k + 1)))) := by show Mk _ _ _ _; rw [HE.out]; exact hA2.mk_.under (Below.refl _ _).drew
          have HF4 := Lib.hid (HFk.out.trans hF4).drew_
          clear hA hA2 hF4 hZ hql hE hsk hcell cs hsq hcl
          go_upto_region 20 with fail
          go_region
          go_wp2_with fail
          go_roundw
          case rel => exact ⟨k + 1, by go_num, by omega, HA2.out, HF4.out⟩
          case measure => simp [intOf] <;> omega
        · obtain rfl : k = ns := by omega
          have HM9 : Hid (Mk B wr m R) := by
            have := HMk.out
            rw [List.take_of_length_le (by rw [HNS2.out]; omega), ← HR2.out] at this
            exact this
          have HF9 := Lib.hid (HFR0.out.trans (HFj.out.trans HFk.out))
          go_wp2_with fail
          go_end0
          exact ⟨rfl, HM9.out, HF9.out⟩
end Go.Proofs.Ytjfkppbfckgckaa
namespace Go.Proofs.Ytjfkppbfckgckaa
set_option maxRecDepth 20000
open Go.RowKit Go.Rb
attribute [local irreducible] Go.wpQuiet

/-- What alt does. -/
def AltC (kids : List Nd) : Prop := ∀ (B m : Nat) (w : World) (S : Nat → Prop) (ps : List Ins) (set : List (Int × Int)) (mn mx : Int) (sv : Value) (A4 : Option Addr) (m4 : Nat), Mk B w m ps → B ≤ w.heap.size → NdV w S (ndV 5 sv mn mx (.slice A4 kids.length m4)) (.mk 5 set mn mx kids) → (endXY (altP kids ps []).1 (altP kids ps []).2).length ≤ 4000 →
  Calls Try.prog 56 #[.pointer (some ⟨m, 0, none⟩), .slice A4 kids.length m4] w fun e w' => e = .returned (.tuple #[]) ∧ Mk B w' m (endXY (altP kids ps []).1 (altP kids ps []).2) ∧ Fr B w w'
theorem nodesP_snoc (l : List Nd) (k : Nd) : ∀ ps, nodesP (l ++ [k]) ps = nodeP k (nodesP l ps) := by
  induction l with
  | nil => intro ps; rw [List.nil_append, nodesP, nodesP, nodesP]
  | cons a l ih => intro ps; rw [List.cons_append, nodesP, ih, nodesP]
theorem nodesP_le {kids : List Nd} (h : ∀ k ∈ kids, Grows (nodeP k)) (ps : List Ins) (i : Nat) : (nodesP (kids.take i) ps).length ≤ (nodesP kids ps).length := by
  have key : ∀ (a b : List Nd) (ps : List Ins), nodesP (a ++ b) ps = nodesP b (nodesP a ps) := by
    intro a
    induction a with
    | nil => intro b ps; rw [List.nil_append, nodesP]
    | cons x a ih => intro b ps; rw [List.cons_append, nodesP, ih, nodesP]
  have e : nodesP kids ps = nodesP (kids.drop i) (nodesP (kids.take i) ps) := by rw [← key, List.take_append_drop]
  rw [e]
  exact nodesP_grows (fun k hk => h k (List.mem_of_mem_drop hk)) _
set_option maxRecDepth 20000 in
set_option maxHeartbeats 4000000 in
theorem node_step {op mn mx : Int} {set : List (Int × Int)} {kids : List Nd} (hok : OkN (.mk op set mn mx kids)) (hk : ∀ k ∈ kids, NodeC k) (halt : op = 5 → AltC kids) : NodeC (.mk op set mn mx kids) := by
  intro B m w S v ps hM hB hv hb
  have hgk : ∀ k ∈ kids, Grows (nodeP k) := by
    cases hok with
    | mk _ _ _ _ _ _ _ _ _ _ h => exact fun k hk => nodeP_grows (h k hk)
  obtain ⟨A1, m1, A4, m4, rfl, hm4, hset, -⟩ := hv.kids
  have HFA : Fr B w (w.alloc (.cells #[.int .i64 op, .slice A1 set.length m1, .int .i64 mn, .int .i64 mx, .slice A4 kids.length m4] 52)) := Fr.of_below (below_al (Below.refl _ _) _) hB
  have HMA := hM.under (below_al (Below.refl w.heap.size w) (.cells #[.int .i64 op, .slice A1 set.length m1, .int .i64 mn, .int .i64 mx, .slice A4 kids.length m4] 52))
  have hvA := hv.fr HFA
  have hlp : ps.length ≤ 4000 := Nat.le_trans (nodeP_grows hok ps) hb
  have hkl : kids.length ≤ 1000 := by cases hok; assumption
  have hsl : set.length ≤ 1000 := by cases hok; assumption
  have hsetA := hset.fr HFA
  have hBA : B ≤ (w.alloc (.cells #[.int .i64 op, .slice A1 set.length m1, .int .i64 mn, .int .i64 mx, .slice A4 kids.length m4] 52)).heap.size := Nat.le_trans hB HFA.size
  have hbkA := Blk.new w 52 #[.int .i64 op, .slice A1 set.length m1, .int .i64 mn, .int .i64 mx, .slice A4 kids.length m4]
  have HOK := Lib.hid hok
  have HKN := Lib.hid hk
  have HGK := Lib.hid hgk
  have HALT := Lib.hid halt
  clear hM hB hv hset hgk hok hk halt
  unfold ndV at hvA ⊢
  go_enter Try.func40, Try.ntmps40
  go_upto_region 1 with fail
  generalize w.alloc (.cells #[.int .i64 op, .slice A1 set.length m1, .int .i64 mn, .int .i64 mx, .slice A4 kids.length m4] 52) = w0 at HFA HMA hvA hsetA hBA hbkA ⊢
  have y0 := hbkA.cell 0
  have y1 := hbkA.cell 1
  have y2 := hbkA.cell 2
  have y3 := hbkA.cell 3
  have y4 := hbkA.cell 4
  simp only [List.getElem?_toArray, List.getElem?_cons_succ, List.getElem?_cons_zero] at y0 y1 y2 y3 y4
  have hs0 := hbkA.lt
  have HF0 := Lib.hid HFA
  have HM0 := Lib.hid HMA
  have HV0 : Hid (NdV w0 S (ndV op (.slice A1 set.length m1) mn mx (.slice A4 kids.length m4)) (.mk op set mn mx kids)) := hvA
  have HS0 := Lib.hid hsetA
  have HB0 := Lib.hid hBA
  have HBD := Lib.hid hb
  have HBK := Lib.hid hbkA
  clear HFA HMA hvA hsetA hBA hb hbkA
  by_cases e1 : op = 1
  · subst e1
    have HR : Hid (nodeP (.mk 1 set mn mx kids) ps = ps ++ [⟨1, set, (ps.length : Int) + 1, 0⟩]) := by show _ = _; rw [nodeP]; rfl
    have HP := Lib.hid (put_set (op := 1) HM0.out HS0.out hsl (by omega))
    go_wp2_with fail
    refine HP.out.mono ?_
    rintro e w1 ⟨rfl, hm, hf⟩
    have HM := Lib.hid hm
    have HF := Lib.hid (HF0.out.trans hf)
    clear hm hf
    go_wp2_with fail
    go_end0
    exact ⟨rfl, by rw [HR.out]; exact HM.out, HF.out⟩
  have F1 : (op == 1) = false := by simpa using e1
  by_cases e2 : op = 2
  · subst e2
    have HR : Hid (nodeP (.mk 2 set mn mx kids) ps = ps ++ [⟨3, [], (ps.length : Int) + 1, 0⟩]) := by show _ = _; rw [nodeP]; rfl
    have HP := Lib.hid (put_set (op := 3) HM0.out (SetV.nil_ w0) (by simp) (by omega))
    go_wp2_with fail
    refine HP.out.mono ?_
    rintro e w1 ⟨rfl, hm, hf⟩
    have HM := Lib.hid hm
    have HF := Lib.hid (HF0.out.trans hf)
    clear hm hf
    go_wp2_with fail
    go_end0
    exact ⟨rfl, by rw [HR.out]; exact HM.out, HF.out⟩
  have F2 : (op == 2) = false := by simpa using e2
  by_cases e3 : op = 3
  · subst e3
    have HR : Hid (nodeP (.mk 3 set mn mx kids) ps = ps ++ [⟨4, [], (ps.length : Int) + 1, 0⟩]) := by show _ = _; rw [nodeP]; rfl
    have HP := Lib.hid (put_set (op := 4) HM0.out (SetV.nil_ w0) (by simp) (by omega))
    go_wp2_with fail
    refine HP.out.mono ?_
    rintro e w1 ⟨rfl, hm, hf⟩
    have HM := Lib.hid hm
    have HF := Lib.hid (HF0.out.trans hf)
    clear hm hf
    go_wp2_with fail
    go_end0
    exact ⟨rfl, by rw [HR.out]; exact HM.out, HF.out⟩
  have F3 : (op == 3) = false := by simpa using e3
  by_cases e4 : op = 4
  · subst e4
    have HR : Hid (nodeP (.mk 4 set mn mx kids) ps = nodesP kids ps) := by show _ = _; rw [nodeP]; rfl
    rw [HR.out] at HBD
    obtain ⟨nk, hnk⟩ : ∃ nk, kids.length = nk := ⟨_, rfl⟩
    have HNK := Lib.hid hnk
    rw [hnk] at y4 hkl hm4 HV0 ⊢
    clear hnk
    go_wp2_with fail
    go_loopw [27] (fun iv wr => ∃ i : Nat, iv = .int .i64 (i : Int) ∧ i ≤ nk ∧ Hid (Mk B wr m (nodesP (kids.take i) ps)) ∧ Hid (Fr B w0 wr)) (fun iv _ => nk - (intOf iv).toNat)
    case atStart => exact ⟨0, rfl, by omega, by show Mk _ _ _ _; rw [List.take_zero, nodesP]; exact HM0.out, Fr.refl _ _⟩
    case round =>
    obtain ⟨i, rfl, hin, HMI, HFI⟩ := hrel
    by_cases hi : i < nk
    · have hcl : i < kids.length := by rw [HNK.out]; exact hi
      obtain ⟨k, hki⟩ : ∃ k, kids[i]? = some k := ⟨_, List.getElem?_eq_getElem hcl⟩
      obtain ⟨A1', m1', A4', m4', e, -, -, hkid⟩ := (HV0.out.fr HFI.out).kids
      rw [HNK.out] at e
      simp only [ndV, Value.agg.injEq, Array.mk.injEq, List.cons.injEq, Value.slice.injEq, true_and, and_true] at e
      obtain ⟨⟨rfl, rfl⟩, rfl, rfl⟩ := e
      obtain ⟨b, off, x0, A5, n5, m5, x2, x3, A6, n6, m6, rfl, hbl, hnv, c0, c1, c2, c3, c4⟩ := hkid wr (Below.refl _ _) i k hki
      have htk : kids.take (i + 1) = kids.take i ++ [k] := by rw [List.take_add_one, hki]; rfl
      have hst : nodesP (kids.take (i + 1)) ps = nodeP k (nodesP (kids.take i) ps) := by rw [htk, nodesP_snoc]
      have hbdi := Nat.le_trans (nodesP_le HGK.out ps (i + 1)) HBD.out
      rw [hst] at hbdi
      have HST := Lib.hid hst
      have hfa : Fr B wr (wr.alloc (.cells #[.int .i64 x0, .slice A5 n5 m5, .int .i64 x2, .int .i64 x3, .slice A6 n6 m6] 52)) := Fr.of_below (below_al (Below.refl _ _) _) (Nat.le_trans HB0.out HFI.out.size)
      have HC := Lib.hid (HKN.out k (List.mem_of_getElem? hki) B m _ S _ _ (HMI.out.under (below_al (Below.refl wr.heap.size wr) (.cells #[.int .i64 x0, .slice A5 n5 m5, .int .i64 x2, .int .i64 x3, .slice A6 n6 m6] 52))) (Nat.le_trans (Nat.le_trans HB0.out HFI.out.size) hfa.size) (hnv.fr hfa) hbdi)
      have HFA := Lib.hid (HFI.out.trans hfa)
      unfold ndV at HC
      clear hki hcl hkid hnv htk hst hbdi hfa
      go_wp2_with fail
      refine HC.out.mono ?_
      rintro e w1 ⟨rfl, hm, hf⟩
      have HM : Hid (Mk B w1 m (nodesP (kids.take (i + 1)) ps)) := by show Mk _ _ _ _; rw [HST.out]; exact hm
      have HF := Lib.hid (HFA.out.trans hf)
      clear hm hf
      go_wp2_with fail
      go_roundw
      case rel => exact ⟨i + 1, by go_num, by omega, HM.out, HF.out⟩
      case measure => simp [intOf] <;> omega
    · obtain rfl : i = nk := by omega
      have HM : Hid (Mk B wr m (nodesP kids ps)) := by
        have := HMI.out
        rw [List.take_of_length_le (by rw [HNK.out]; omega)] at this
        exact this
      have HF := Lib.hid (HF0.out.trans HFI.out)
      go_wp2_with fail
      go_end0
      exact ⟨rfl, by rw [HR.out]; exact HM.out, HF.out⟩
  have F4 : (op == 4) = false := by simpa using e4
  by_cases e5 : op = 5
  · subst e5
    have HR : Hid (nodeP (.mk 5 set mn mx kids) ps = endXY (altP kids ps []).1 (altP kids ps []).2) := by show _ = _; rw [nodeP]; rfl
    rw [HR.out] at HBD
    have HC := Lib.hid (HALT.out rfl B m w0 S ps set mn mx _ A4 m4 HM0.out HB0.out HV0.out HBD.out)
    go_wp2_with fail
    refine HC.out.mono ?_
    rintro e w1 ⟨rfl, hm, hf⟩
    have HM := Lib.hid hm
    have HF := Lib.hid (HF0.out.trans hf)
    clear hm hf
    go_wp2_with fail
    go_end0
    exact ⟨rfl, by rw [HR.out]; exact HM.out, HF.out⟩
  have F5 : (op == 5) = false := by simpa using e5
  by_cases e6 : op = 6
  · subst e6
    have hok := HOK.out
    obtain ⟨kid, hkid, b1, b2, b3, b4⟩ : ∃ kid, kids = [kid] ∧ 0 ≤ mn ∧ mn ≤ 50 ∧ mx ≤ 50 ∧ (mx = -1 ∨ mn ≤ mx) := by
      cases hok with
      | mk _ _ _ _ _ _ h6 =>
        obtain ⟨h1, h2⟩ := h6 rfl
        match kids, h1 with
        | [k], _ => exact ⟨k, rfl, h2⟩
    subst hkid
    have HR : Hid (nodeP (.mk 6 set mn mx [kid]) ps = repP (nodeP kid) mn mx ps) := by show _ = _; rw [nodeP]; rfl
    rw [HR.out] at HBD
    have HC := Lib.hid (rep_any (HKN.out kid (by simp)) (HGK.out kid (by simp)) HM0.out HB0.out HV0.out b1 b2 b3 b4 HBD.out)
    unfold ndV at HC
    clear hok
    go_wp2_with fail
    refine HC.out.mono ?_
    rintro e w1 ⟨rfl, hm, hf⟩
    have HM := Lib.hid hm
    have HF := Lib.hid (HF0.out.trans hf)
    clear hm hf
    go_wp2_with fail
    go_end0
    exact ⟨rfl, by rw [HR.out]; exact HM.out, HF.out⟩
  have F6 : (op == 6) = false := by simpa using e6
  have HR : Hid (nodeP (.mk op set mn mx kids) ps = ps) := by show _ = _; rw [nodeP, if_neg e1, if_neg e2, if_neg e3, if_neg e4, if_neg e5, if_neg e6]
  go_wp2_with fail
  go_end0
  exact ⟨rfl, by rw [HR.out]; exact HM0.out, HF0.out⟩
end Go.Proofs.Ytjfkppbfckgckaa
namespace Go.Proofs.Ytjfkppbfckgckaa
set_option maxRecDepth 20000
open Go.RowKit Go.Rb
attribute [local irreducible] Go.wpQuiet

/-- A program in a slice of its own. -/
def ProgO (w : World) (v : Value) (ps : List Ins) : Prop := ∃ svs : List Value, svs.length = ps.length ∧ Own w 48 4 v ps.length (insRow ps svs) ∧ ∀ (i : Nat) (t : Ins), ps[i]? = some t → ∃ sv, svs[i]? = some sv ∧ SetV w sv t.set
theorem ProgO.under {w w' : World} {v : Value} {ps : List Ins} (h : ProgO w v ps) (hb : Below w.heap.size w w') : ProgO w' v ps := by
  obtain ⟨svs, h1, h2, h3⟩ := h
  refine ⟨svs, h1, h2.below hb fun k hk => h2.lt hk, fun i t hi => ?_⟩
  obtain ⟨sv, e, hs⟩ := h3 i t hi
  exact ⟨sv, e, hs.below hb⟩
/-- What Compile answers. -/
def RetComp (w : World) (n : Nd) (e : Ending) (w' : World) : Prop := Below w.heap.size w w' ∧ ((2000 ≤ lenC n ∧ e = .returned (.tuple #[.slice none 0 0, .int .i64 16])) ∨
  (lenC n < 2000 ∧ ∃ v, e = .returned (.tuple #[v, .int .i64 0]) ∧ ProgO w' v (nodeP n [] ++ [⟨0, [], 0, 0⟩]) ∧ ∀ k, v.ownBlock = some k → w.heap.size ≤ k))
theorem prog_done {m g o c : Nat} {w w5 : World} {ps : List Ins} {svs : List Value} {sl : Value} (hbk : Blk w m 81 #[sl]) (h3 : svs.length = ps.length) (h4 : Own w 48 4 sl ps.length (insRow ps svs)) (h5 : ∀ (i : Nat) (t : Ins), ps[i]? = some t → ∃ sv, svs[i]? = some sv ∧ SetV w sv t.set)
    (hg : (w.alloc (.cells #[.int .i64 0, .slice none 0 0, .int .i64 0, .int .i64 0] 48)).grownBy w5 sl.ownBlock) (hO : Own w5 48 4 (.slice (some ⟨g, o, none⟩) (ps.length + 1) c) (ps.length + 1) (insRow ps svs ++ [.int .i64 0, .slice none 0 0, .int .i64 0, .int .i64 0])) :
    Blk w5 m 81 #[sl] ∧ ∀ u, ProgO (w5.setCell ⟨m, 0, none⟩ u) (.slice (some ⟨g, o, none⟩) (ps.length + 1) c) (ps ++ [⟨0, [], 0, 0⟩]) := by
  have hbk5 : Blk w5 m 81 #[sl] := (hbk.alloc _).grown hg (fun e => own_ne_blk_ h4 hbk (by decide) e.symm)
  refine ⟨hbk5, fun u => ⟨svs ++ [.slice none 0 0], by simp [h3], ?_, fun i t hi => ?_⟩⟩
  · rw [insRow_snoc _ _ h3, List.length_append]
    exact hO.setCell (p := ⟨m, 0, none⟩) (fun e => own_ne_blk_ hO hbk5 (by decide) e) _
  · have key : ∀ (sv : Value) (q : List (Int × Int)), SetV w sv q → SetV (w5.setCell ⟨m, 0, none⟩ u) sv q := fun sv q h => by
      have h1 : SetV w5 sv q := Own.grown (h.below (below_al (Below.refl _ _) (.cells #[.int .i64 0, .slice none 0 0, .int .i64 0, .int .i64 0] 48))) hg (fun k hk e => own_ne_ h h4 (by decide) hk e)
      exact Own.setCell (p := ⟨m, 0, none⟩) h1 (own_ne_blk_ h1 hbk5 (by decide)) _
    by_cases hin : i < ps.length
    · rw [List.getElem?_append_left hin] at hi
      obtain ⟨sv, e1, hs1⟩ := h5 i t hi
      exact ⟨sv, by rw [List.getElem?_append_left (by omega)]; exact e1, key _ _ hs1⟩
    · have hi2 := (List.getElem?_eq_some_iff.1 hi).1
      obtain rfl : i = ps.length := by simp at hi2; omega
      rw [List.getElem?_append_right (Nat.le_refl _)] at hi
      obtain rfl : (⟨0, [], 0, 0⟩ : Ins) = t := by simpa using hi
      exact ⟨_, by rw [List.getElem?_append_right (by omega), h3]; simp, key _ _ (SetV.nil_ w)⟩
set_option maxRecDepth 20000 in
set_option maxHeartbeats 4000000 in
theorem comp_any {n : Nd} (hok : OkN n) (hN : NodeC n) {w : World} {S : Nat → Prop} {v : Value} (hv : NdV w S v n) (hlen : lenC n < 2000 → (nodeP n []).length ≤ 4000) : Calls Try.prog 25 #[v] w (RetComp w n) := by
  obtain ⟨i0, hi0, hz0, hz1, hz2⟩ := info_parts infoI
  obtain ⟨x0, A1, n1, m1, x2, x3, A4, n4, m4, rfl⟩ := hv.parts
  have hbd := lenC_bd hok
  have HLEN := Lib.hid (fun W (hW : Below w.heap.size w W) => len_any hok W S _ (hv.under hW))
  have HV := Lib.hid hv
  have HN := Lib.hid hN
  obtain ⟨L, hL⟩ : ∃ L, lenC n = L := ⟨_, rfl⟩
  have HL := Lib.hid hL
  rw [hL] at hbd hlen
  obtain ⟨hbd1, hbd2⟩ := hbd
  have HLE := Lib.hid hlen
  have HCV : Hid (∀ W, Below w.heap.size w W → Calls Try.prog 39 #[.agg #[.int .i64 x0, .slice A1 n1 m1, .int .i64 x2, .int .i64 x3, .slice A4 n4 m4]] W fun e w' => e = .returned (.int .i64 L) ∧ Below W.heap.size W w') := fun W hW => by
    have := HLEN.out W hW
    rw [hL] at this
    exact this
  clear hok hN hv hL hlen HLEN
  unfold ndV
  go_enter Try.func25, Try.ntmps25
  go_wp2_with fail
  refine (HCV.out _ (below_al (Below.refl _ _) _)).mono ?_
  rintro e1 w1 ⟨rfl, hb1⟩
  have HB1 := Lib.hid (below_trans (below_al (Below.refl w.heap.size w) _) hb1)
  have hs1 := HB1.out.size
  have hbx : Blk w1 w.heap.size 52 #[.int .i64 x0, .slice A1 n1 m1, .int .i64 x2, .int .i64 x3, .slice A4 n4 m4] := (Blk.new _ _ _).below hb1 (by simp)
  have HBX := Lib.hid hbx
  have hlt1 := hbx.lt
  clear hb1 HCV hbx
  by_cases hbig : 2000 ≤ L
  · go_wp2_with fail
    go_returns
    exact ⟨HB1.out, .inl ⟨by rw [HL.out]; exact hbig, rfl⟩⟩
  · have hl4 := HLE.out (by omega)
    have y0 := HBX.out.cell 0
    have y1 := HBX.out.cell 1
    have y2 := HBX.out.cell 2
    have y3 := HBX.out.cell 3
    have y4 := HBX.out.cell 4
    simp only [List.getElem?_toArray, List.getElem?_cons_succ, List.getElem?_cons_zero] at y0 y1 y2 y3 y4
    have hmk : Mk w1.heap.size (w1.alloc (.cells #[.slice none 0 0] 81)) w1.heap.size [] := ⟨Nat.le_refl _, .slice none 0 0, [], Blk.new _ _ _, by simp [Value.ownBlock], rfl, Own.nil_ _ _ _, fun i t h => by simp at h⟩
    have HC := Lib.hid (HN.out w1.heap.size w1.heap.size (w1.alloc (.cells #[.slice none 0 0] 81)) S (.agg #[.int .i64 x0, .slice A1 n1 m1, .int .i64 x2, .int .i64 x3, .slice A4 n4 m4]) [] hmk (by simp) ((HV.out.under HB1.out).under (below_al (Below.refl _ _) _)) hl4)
    obtain ⟨PS, hPS⟩ : ∃ PS, nodeP n [] = PS := ⟨_, rfl⟩
    rw [hPS] at HC hl4
    have HPS := Lib.hid hPS
    clear hmk hPS
    go_wp2_with fail
    refine HC.out.mono ?_
    rintro e2 w3 ⟨rfl, hm, hf⟩
    obtain ⟨h0, sl, svs, h1, h2, h3, h4, h5⟩ := hm
    obtain ⟨Ap, cp, rfl, -, -⟩ := h4.len_
    have HB3 := Lib.hid (HB1.out.trans ((below_al (Below.refl w1.heap.size w1) (.cells #[.slice none 0 0] 81)).trans hf.below |>.mono hs1))
    have hs3 : w1.heap.size ≤ w3.heap.size := Nat.le_trans (by simp) hf.size
    have q0 := h1.cell 0
    have q1 := h1.frozen 0
    have hml := h1.lt
    simp only [List.getElem?_toArray, List.getElem?_cons_zero] at q0
    have HO := Lib.hid h4
    have H2 := Lib.hid h2
    have HD := Lib.hid (fun (w5 : World) (g o c : Nat) => prog_done (g := g) (o := o) (c := c) (w5 := w5) h1 h3 h4 h5)
    clear h0 h1 h2 h3 h4 h5 hf HC y0 y1 y2 y3 y4
    go_wp2_with (at_builtin; refine wpList_append_mine _ rfl (.tmp 17) (.tmp 19) _ rfl 48 i0 _ 4 48 Try.underlying23 hi0 hz0 hz1 hz2 rfl (by omega) (.slice Ap PS.length cp) PS.length (insRow PS svs) rfl (by exact HO.out.alloc _) _ 1 1 [.int .i64 0, .slice none 0 0, .int .i64 0, .int .i64 0] rfl rfl (by exact news_pushs rfl rfl) (by simp [Value.oneCell']) (by omega) (by simp only [maxLen]; omega) (by omega) _ rfl ?_; intro g5 o5 c5 w5 hown5 hgrow5 hat5; have hdd := HD.out w5 g5 o5 c5 hgrow5 hown5; obtain ⟨hbk5, hpr5⟩ := hdd; have HP5 := Lib.hid hpr5; have HB5 := Lib.hid (Below.grown (HB3.out.alloc HB3.out.size (.cells #[.int .i64 0, .slice none 0 0, .int .i64 0, .int .i64 0] 48)) hgrow5 (by simp; omega) (fun k hk => Nat.le_trans hs1 (H2.out k hk))); have HK5 := Lib.hid (ns_far (o := o5) (n := PS.length + 1) (c := c5) (B := w.heap.size) (fun k hk => Nat.le_trans hs1 (H2.out k hk)) hat5 (by simp; omega)); have t0 := hbk5.cell 0; have t1 := hbk5.frozen 0; have hm5 := hbk5.lt; simp only [List.getElem?_toArray, List.getElem?_cons_zero] at t0; clear hown5 hgrow5 hat5 hbk5 hpr5 q0 q1)
    go_returns
    refine ⟨HB5.out.setCell (p := ⟨w1.heap.size, 0, none⟩) hs1 _, .inr ⟨by rw [HL.out]; omega, _, rfl, ?_, HK5.out⟩⟩
    rw [HPS.out]
    exact HP5.out _
end Go.Proofs.Ytjfkppbfckgckaa
namespace Go.Proofs.Ytjfkppbfckgckaa
set_option maxRecDepth 20000
open Go.RowKit Go.Rb
attribute [local irreducible] Go.wpQuiet

/-- An instruction, its set left out. -/
structure In where
  op : Int
  x : Int
  y : Int
def InAt (w : World) (b off i : Nat) (t : In) : Prop := ∃ A n c, w.cell? ⟨b, off + i * 4, none⟩ = some (.int .i64 t.op) ∧ w.cell? ⟨b, off + i * 4 + 1, none⟩ = some (.slice A n c) ∧
  w.cell? ⟨b, off + i * 4 + 2, none⟩ = some (.int .i64 t.x) ∧ w.cell? ⟨b, off + i * 4 + 3, none⟩ = some (.int .i64 t.y)
def InsR (w : World) (A : Option Addr) (l : List In) : Prop := l ≠ [] → ∃ b off, A = some ⟨b, off, none⟩ ∧ b < w.heap.size ∧ ∀ (i : Nat) (t : In), l[i]? = some t → InAt w b off i t
theorem InsR.under {w w' : World} {A : Option Addr} {l : List In} (h : InsR w A l) (hw : Below w.heap.size w w') : InsR w' A l := fun hl => by
  obtain ⟨b, off, hA, hb, ht⟩ := h hl
  refine ⟨b, off, hA, by have := hw.size; omega, fun i t hi => ?_⟩
  obtain ⟨A1, n1, c1, h0, h1, h2, h3⟩ := ht i t hi
  exact ⟨A1, n1, c1, (hw.cell (p := ⟨b, _, none⟩) hb).trans h0, (hw.cell (p := ⟨b, _, none⟩) hb).trans h1, (hw.cell (p := ⟨b, _, none⟩) hb).trans h2, (hw.cell (p := ⟨b, _, none⟩) hb).trans h3⟩
def okI (n : Nat) (t : In) : Bool := decide (0 ≤ t.op ∧ t.op ≤ 4 ∧ (t.op = 0 ∨ (0 ≤ t.x ∧ t.x < (n : Int))) ∧ (t.op ≠ 2 ∨ (0 ≤ t.y ∧ t.y < (n : Int))))
/-- Is a program right? -/
def rightP (n : Nat) (l : List In) : Bool := l.all (okI n) && decide (0 < n)
theorem take_ok {n i : Nat} {l : List In} {t : In} (hi : l[i]? = some t) (h : (l.take i).all (okI n) = true) (ht : okI n t = true) : (l.take (i + 1)).all (okI n) = true := by
  rw [List.take_add_one, hi, List.all_append, h]
  simpa using ht
theorem rightP_bad {n i : Nat} {l : List In} {t : In} (hi : l[i]? = some t) (_ : (l.take i).all (okI n) = true) (ht : okI n t = false) : rightP n l = false := by
  have : l.all (okI n) = false := by
    rw [List.all_eq_false]
    exact ⟨t, List.mem_of_getElem? hi, by simp [ht]⟩
  simp [rightP, this]
set_option maxHeartbeats 1000000 in
theorem refRight_any (l : List In) (A : Option Addr) (n c : Nat) (w : World) (hr : InsR w A l) (hl : l.length = n) (hn : n ≤ 1000000) (hc : n ≤ c) :
    Calls Try.prog 10 #[.slice A n c] w fun e w' => e = .returned (.bool (rightP n l)) ∧ Below w.heap.size w w' := by
  have HL := Lib.hid hl
  have HT := Lib.hid hr
  clear hr hl
  go_enter Try.func10, Try.ntmps10
  go_wp2_with fail
  go_loopw [3] (fun iv wr => ∃ i : Nat, iv = .int .i64 (i : Int) ∧ i ≤ n ∧ Below w.heap.size w wr ∧ Hid ((l.take i).all (okI n) = true)) (fun iv _ => n - (intOf iv).toNat)
  case atStart => exact ⟨0, rfl, by omega, Below.refl _ _, by simp [Hid]⟩
  case round =>
  obtain ⟨i, rfl, hin, hbw, HI⟩ := hrel
  have HB := Lib.hid hbw
  have hgw := hbw.size
  by_cases hlt : i < n
  · have hcl : i < l.length := by rw [HL.out]; exact hlt
    obtain ⟨t, hi⟩ : ∃ t, l[i]? = some t := ⟨_, List.getElem?_eq_getElem hcl⟩
    obtain ⟨b, off, rfl, hb, hat⟩ := (HT.out.under hbw) (fun e => by rw [e] at hcl; simp at hcl)
    obtain ⟨A1, n1, c1, c0, c1', c2, c3⟩ := hat i t hi
    clear hat hcl hbw HL HT
    obtain ⟨op, x, y⟩ := t
    simp only at c0 c2 c3
    by_cases h1 : op < 0
    · skip
      have HF : Hid (rightP n l = false) := rightP_bad hi HI.out (by simp [okI]; omega)
      clear HI
      go_wp2_with fail
      go_returns
      exact ⟨by rw [HF.out]; rfl, HB.out.alloc HB.out.size _⟩
    by_cases h2 : 4 < op
    · skip
      have HF : Hid (rightP n l = false) := rightP_bad hi HI.out (by simp [okI]; omega)
      clear HI
      go_wp2_with fail
      go_returns
      exact ⟨by rw [HF.out]; rfl, HB.out.alloc HB.out.size _⟩
    by_cases h3 : op = 0
    · subst h3
      have HG : Hid ((l.take (i + 1)).all (okI n) = true) := take_ok hi HI.out (by simp [okI])
      clear HI
      go_wp2_with fail
      go_roundw
      case rel => exact ⟨i + 1, by go_num, by omega, HB.out.alloc HB.out.size _, HG.out⟩
      case measure => simp [intOf]; omega
    have h3' : (op != 0) = true := by simpa using h3
    by_cases h4 : x < 0
    · skip
      have HF : Hid (rightP n l = false) := rightP_bad hi HI.out (by simp [okI]; omega)
      clear HI
      go_wp2_with fail
      go_returns
      exact ⟨by rw [HF.out]; rfl, HB.out.alloc HB.out.size _⟩
    by_cases h5 : (n : Int) ≤ x
    · skip
      have HF : Hid (rightP n l = false) := rightP_bad hi HI.out (by simp [okI]; omega)
      clear HI
      go_wp2_with fail
      go_returns
      exact ⟨by rw [HF.out]; rfl, HB.out.alloc HB.out.size _⟩
    by_cases h6 : op = 2
    · subst h6
      by_cases h7 : y < 0
      · skip
        have HF : Hid (rightP n l = false) := rightP_bad hi HI.out (by simp [okI]; omega)
        clear HI
        go_wp2_with fail
        go_returns
        exact ⟨by rw [HF.out]; rfl, HB.out.alloc HB.out.size _⟩
      by_cases h8 : (n : Int) ≤ y
      · skip
        have HF : Hid (rightP n l = false) := rightP_bad hi HI.out (by simp [okI]; omega)
        clear HI
        go_wp2_with fail
        go_returns
        exact ⟨by rw [HF.out]; rfl, HB.out.alloc HB.out.size _⟩
      skip
      have HG : Hid ((l.take (i + 1)).all (okI n) = true) := take_ok hi HI.out (by simp [okI]; omega)
      clear HI
      go_wp2_with fail
      go_roundw
      case rel => exact ⟨i + 1, by go_num, by omega, HB.out.alloc HB.out.size _, HG.out⟩
      case measure => simp [intOf]; omega
    have h6' : (op == 2) = false := by simpa using h6
    have HG : Hid ((l.take (i + 1)).all (okI n) = true) := take_ok hi HI.out (by simp [okI]; omega)
    clear HI
    go_wp2_with fail
    go_roundw
    case rel => exact ⟨i + 1, by go_num, by omega, HB.out.alloc HB.out.size _, HG.out⟩
    case measure => simp [intOf]; omega
  · have e : i = n := by omega
    have HF : Hid (rightP n l = decide (0 < n)) := by
      show _ = _
      have : (l.take i).all (okI n) = true := HI.out
      rw [List.take_of_length_le (by rw [HL.out]; omega)] at this
      simp [rightP, this]
    clear hbw e HI
    go_wp2_with fail
    go_returns
    exact ⟨by rw [HF.out]; simp, HB.out⟩
end Go.Proofs.Ytjfkppbfckgckaa
