/-
  The contract of prog's rep, given its kid's; no condition beyond those that each theorem states.
-/
import Derived.Test.YtgfienopijlnkaaNodeP
import Derived.Deep.Cut
namespace Go.Proofs.Ytgfienopijlnkaa
open Go.RowKit Go.Rb
attribute [local irreducible] Go.wpQuiet

theorem infoInt : (Try.prog.info? 3).map (fun i => (i.zero, i.size, i.bytes)) = some (some (.int .i64 0), 1, 8) := by kernel_rfl
def nV (n : Nat) : Value := .int .i64 (n : Int)
/-- A slice of numbers of the call's own. -/
def NsO (w : World) (v : Value) (ss : List Nat) : Prop := Own w 3 1 v ss.length (ss.map nV)
theorem Fr.grown_ {B : Nat} {w0 wr w' : World} {ob : Option Nat} (h : Fr B w0 wr) (hg : wr.grownBy w' ob) (hB : B ≤ w0.heap.size) (hk : ∀ k, ob = some k → w0.heap.size ≤ k) : Fr B w0 w' := by
  refine ⟨Below.grown h.below hg (Nat.le_trans hB h.size) (fun k hk1 => Nat.le_trans hB (hk k hk1)), fun k cs t hb h1 h2 => ?_⟩
  have h3 := h.keep k cs t hb h1 h2
  refine h3.grown hg fun e => ?_
  have := hk k e.symm
  have := hb.lt
  omega
theorem Mk.grown_ {B m : Nat} {w w' : World} {ps : List Ins} {v : Value} {n : Nat} {xs : List Value} (h : Mk B w m ps) (hv : Own w 3 1 v n xs) (hg : w.grownBy w' v.ownBlock) : Mk B w' m ps := by
  obtain ⟨h0, sl, svs, h1, h2, h3, h4, h5⟩ := h
  refine ⟨h0, sl, svs, h1.grown hg (fun e => own_ne_blk_ hv h1 (by decide) e.symm), h2, h3, Own.grown h4 hg (fun k hk e => own_ne_ h4 hv (by decide) hk e), fun i t hi => ?_⟩
  obtain ⟨sv, e, hs⟩ := h5 i t hi
  exact ⟨sv, e, Own.grown hs hg fun k hk e => own_ne_ hs hv (by decide) hk e⟩
theorem Fr.al {B : Nat} {w0 wr : World} (h : Fr B w0 wr) (o : Obj) (hB : B ≤ w0.heap.size) : Fr B w0 (wr.alloc o) := h.trans (Fr.of_below (below_al (Below.refl _ _) _) (Nat.le_trans hB h.size))
theorem ns_snoc {w : World} {v : Value} {ss : List Nat} {s : Nat} (h : Own w 3 1 v (ss.length + 1) (ss.map nV ++ [.int .i64 (s : Int)])) : NsO w v (ss ++ [s]) := by
  unfold NsO
  rw [List.length_append, List.map_append]
  exact h
theorem ns_far {v : Value} {g H B o n c : Nat} (hk : ∀ k, v.ownBlock = some k → B ≤ k) (h : v.ownBlock = some g ∨ g = H) (hH : B ≤ H) : ∀ k, (Value.slice (some ⟨g, o, none⟩) n c).ownBlock = some k → B ≤ k := by
  intro k e
  have e2 : g = k := by simpa [Value.ownBlock] using e
  subst e2
  rcases h with h | h
  · exact hk _ h
  · omega
theorem NsO.fr {B : Nat} {w w' : World} {v : Value} {ss : List Nat} (h : NsO w v ss) (hf : Fr B w w') : NsO w' v ss := Own.fr h hf (by decide) (by decide)
theorem manyP_succ (f : List Ins → List Ins) (k : Nat) : ∀ ps ss, manyP f (k + 1) ps ss = (f (splitP (manyP f k ps ss).1), (manyP f k ps ss).2 ++ [(manyP f k ps ss).1.length]) := by
  induction k with
  | zero => intro ps ss; rfl
  | succ k ih => intro ps ss; rw [manyP, ih]; rfl
theorem manyP_slen (f : List Ins → List Ins) (k : Nat) : ∀ ps ss, (manyP f k ps ss).2.length = ss.length + k := by
  induction k with
  | zero => intro ps ss; rfl
  | succ k ih => intro ps ss; rw [manyP, ih]; simp; omega
theorem manyP_lt {f : List Ins → List Ins} (hf : Grows f) (k : Nat) : ∀ ps ss, (∀ s ∈ ss, s < ps.length) → ∀ s ∈ (manyP f k ps ss).2, s < (manyP f k ps ss).1.length := by
  induction k with
  | zero => intro ps ss h; exact h
  | succ k ih =>
    intro ps ss h
    rw [manyP]
    refine ih _ _ fun s hs => ?_
    have h1 := hf (splitP ps)
    rw [split_len] at h1
    rcases List.mem_append.1 hs with hs | hs
    · have := h s hs; omega
    · obtain rfl : s = ps.length := by simpa using hs
      omega
theorem manyP_le {f : List Ins → List Ins} (hf : Grows f) (ps : List Ins) (ss : List Nat) {i k : Nat} (h : i ≤ k) : (manyP f i ps ss).1.length ≤ (manyP f k ps ss).1.length := by
  induction h with
  | refl => exact Nat.le_refl _
  | step h ih =>
    rw [manyP_succ]
    refine Nat.le_trans ih ?_
    exact Nat.le_trans (Nat.le_of_lt (by rw [split_len]; exact Nat.lt_succ_self _)) (hf (splitP _))
theorem endY_snoc (q : List Ins) (ss : List Nat) (s : Nat) : endY q (ss ++ [s]) = (endY q ss).modify s (setY ((endY q ss).length : Int)) := by
  rw [endY, List.foldl_append, ← endY]; rfl
theorem endXY_snoc (q : List Ins) (ss : List Nat) (s : Nat) : endXY q (ss ++ [s]) = ((endXY q ss).modify s (setX ((endXY q ss).length : Int))).modify s (setY ((endXY q ss).length : Int)) := by
  rw [endXY, List.foldl_append, ← endXY]; rfl
theorem take_snoc {ss : List Nat} {i : Nat} {s : Nat} (hi : ss[i]? = some s) : ss.take (i + 1) = ss.take i ++ [s] := by
  rw [List.take_add_one, hi]; rfl
theorem rep_ge {f : List Ins → List Ins} (hf : Grows f) (ps : List Ins) (mn mx : Int) : (iterP f mn.toNat ps).length ≤ (repP f mn mx ps).length := by
  rw [repP]
  split
  · rw [starP_len]
    have := hf (splitP (iterP f mn.toNat ps))
    rw [split_len] at this
    omega
  · rw [endY_len]
    exact manyP_grows hf _ _ _
set_option maxRecDepth 20000 in
set_option maxHeartbeats 4000000 in
theorem rep_any {kid : Nd} (hk : NodeC kid) (hg : Grows (nodeP kid)) {B m : Nat} {w : World} {S : Nat → Prop} {v : Value} {ps : List Ins} {set : List (Int × Int)} {mn mx : Int} (hM : Mk B w m ps) (hB : B ≤ w.heap.size) (hv : NdV w S v (.mk 6 set mn mx [kid])) (h0 : 0 ≤ mn) (h50 : mn ≤ 50) (hx50 : mx ≤ 50) (hx : mx = -1 ∨ mn ≤ mx)
    (hb : (repP (nodeP kid) mn mx ps).length ≤ 4000) :
    Calls Try.prog 24 #[.pointer (some ⟨m, 0, none⟩), v] w fun e w' => e = .returned (.tuple #[]) ∧ Mk B w' m (repP (nodeP kid) mn mx ps) ∧ Fr B w w' := by
  obtain ⟨i0, hi0, hz0, hz1, hz2⟩ := info_parts infoInt
  obtain ⟨A1, m1, A4, m4, rfl, hm4, hset, hkid⟩ := hv.kids
  obtain ⟨b, off, x0, A5, n5, m5, x2, x3, A6, n6, m6, rfl, hbl, hnv, c0, c1, c2, c3, c4⟩ := hkid w (Below.refl _ _) 0 kid rfl
  simp only [Nat.zero_mul, Nat.add_zero] at c0 c1 c2 c3 c4
  obtain ⟨q, rfl⟩ : ∃ q : Nat, mn = (q : Int) := ⟨mn.toNat, by omega⟩
  obtain ⟨f, hf⟩ : ∃ f, nodeP kid = f := ⟨_, rfl⟩
  have HC : Hid (∀ (w : World) (ps : List Ins), Mk B w m ps → B ≤ w.heap.size → NdV w S (.agg #[.int .i64 x0, .slice A5 n5 m5, .int .i64 x2, .int .i64 x3, .slice A6 n6 m6]) kid → (f ps).length ≤ 4000 →
      Calls Try.prog 14 #[.pointer (some ⟨m, 0, none⟩), .agg #[.int .i64 x0, .slice A5 n5 m5, .int .i64 x2, .int .i64 x3, .slice A6 n6 m6]] w fun e w' => e = .returned (.tuple #[]) ∧ Mk B w' m (f ps) ∧ Fr B w w') := by
    intro w ps h1 h2 h3 h4
    have := hk B m w S _ ps h1 h2 h3 (by rw [hf]; exact h4)
    rwa [hf] at this
  rw [hf] at hg hb ⊢
  have HG := Lib.hid hg
  have HB := Lib.hid hB
  have HM := Lib.hid hM
  have HV := Lib.hid hnv
  obtain ⟨R, hR⟩ : ∃ R, repP f (q : Int) mx ps = R := ⟨_, rfl⟩
  rw [hR] at hb ⊢
  have HR := Lib.hid hR
  have HBD := Lib.hid hb
  clear hk hf hM hB hv hset hkid hg hb hR hnv
  unfold ndV
  go_enter Try.func24, Try.ntmps24
  go_upto_region 2 with fail
  have hfr0 : Fr B w ((w.alloc (.cells #[.int .i64 6, .slice A1 set.length m1, .int .i64 (q : Int), .int .i64 mx, .slice (some ⟨b, off, none⟩) 1 m4] 28)).alloc (.cells #[.int .i64 x0, .slice A5 n5 m5, .int .i64 x2, .int .i64 x3, .slice A6 n6 m6] 28)) := Fr.of_below ((below_al (Below.refl _ _) _).alloc (by simp) _) HB.out
  have hm0 := HM.out.under (((below_al (Below.refl _ w) (.cells #[.int .i64 6, .slice A1 set.length m1, .int .i64 (q : Int), .int .i64 mx, .slice (some ⟨b, off, none⟩) 1 m4] 28)).alloc (by simp) (.cells #[.int .i64 x0, .slice A5 n5 m5, .int .i64 x2, .int .i64 x3, .slice A6 n6 m6] 28)))
  have hbx : Blk ((w.alloc (.cells #[.int .i64 6, .slice A1 set.length m1, .int .i64 (q : Int), .int .i64 mx, .slice (some ⟨b, off, none⟩) 1 m4] 28)).alloc (.cells #[.int .i64 x0, .slice A5 n5 m5, .int .i64 x2, .int .i64 x3, .slice A6 n6 m6] 28)) w.heap.size 28 #[.int .i64 6, .slice A1 set.length m1, .int .i64 (q : Int), .int .i64 mx, .slice (some ⟨b, off, none⟩) 1 m4] := (Blk.new _ _ _).alloc _
  have hbk : Blk ((w.alloc (.cells #[.int .i64 6, .slice A1 set.length m1, .int .i64 (q : Int), .int .i64 mx, .slice (some ⟨b, off, none⟩) 1 m4] 28)).alloc (.cells #[.int .i64 x0, .slice A5 n5 m5, .int .i64 x2, .int .i64 x3, .slice A6 n6 m6] 28)) (w.heap.size + 1) 28 #[.int .i64 x0, .slice A5 n5 m5, .int .i64 x2, .int .i64 x3, .slice A6 n6 m6] := by
    have := Blk.new (w.alloc (.cells #[.int .i64 6, .slice A1 set.length m1, .int .i64 (q : Int), .int .i64 mx, .slice (some ⟨b, off, none⟩) 1 m4] 28)) 28 #[.int .i64 x0, .slice A5 n5 m5, .int .i64 x2, .int .i64 x3, .slice A6 n6 m6]
    simpa using this
  have hnv0 := HV.out.under (((below_al (Below.refl _ w) (.cells #[.int .i64 6, .slice A1 set.length m1, .int .i64 (q : Int), .int .i64 mx, .slice (some ⟨b, off, none⟩) 1 m4] 28)).alloc (by simp) (.cells #[.int .i64 x0, .slice A5 n5 m5, .int .i64 x2, .int .i64 x3, .slice A6 n6 m6] 28)))
  generalize (w.alloc (.cells #[.int .i64 6, .slice A1 set.length m1, .int .i64 (q : Int), .int .i64 mx, .slice (some ⟨b, off, none⟩) 1 m4] 28)).alloc (.cells #[.int .i64 x0, .slice A5 n5 m5, .int .i64 x2, .int .i64 x3, .slice A6 n6 m6] 28) = w0 at hfr0 hm0 hbx hbk hnv0 ⊢
  have hs0 := hbk.lt
  have HFR0 := Lib.hid hfr0
  have HM0 := Lib.hid hm0
  have HBX := Lib.hid hbx
  have HBK := Lib.hid hbk
  have HNV : Hid (NdV w0 S (.agg #[.int .i64 x0, .slice A5 n5 m5, .int .i64 x2, .int .i64 x3, .slice A6 n6 m6]) kid) := hnv0
  have HB0 : Hid (B ≤ w0.heap.size) := Nat.le_trans HB.out hfr0.size
  have HBI : Hid (∀ i, i ≤ q → (iterP f i ps).length ≤ 4000) := fun i hi => by
    have h1 := iterP_le HG.out ps hi
    have h2 := rep_ge HG.out ps (q : Int) mx
    rw [Int.toNat_natCast, HR.out] at h2
    exact Nat.le_trans h1 (Nat.le_trans h2 HBD.out)
  have y0 := hbx.cell 2
  have y1 := hbx.cell 3
  simp only [List.getElem?_toArray, List.getElem?_cons_succ, List.getElem?_cons_zero] at y0 y1
  have hx1 := hbx.lt
  clear hfr0 hm0 hbx hbk hnv0 c0 c1 c2 c3 c4 HV HM hm4 hbl
  obtain ⟨bx, hbxe⟩ : ∃ bx, w.heap.size = bx := ⟨_, rfl⟩
  have HBXE := Lib.hid hbxe
  rw [hbxe] at y0 y1 hx1 hs0 HBX HBK ⊢
  clear hbxe
  go_wp2_with fail
  go_loopw [15] (fun iv wr => ∃ i : Nat, iv = .int .i64 (i : Int) ∧ i ≤ q ∧ Hid (Mk B wr m (iterP f i ps)) ∧ Hid (Fr B w0 wr)) (fun iv _ => q - (intOf iv).toNat)
  case atStart => exact ⟨0, rfl, by omega, HM0.out, Fr.refl _ _⟩
  case round =>
  obtain ⟨i, rfl, hiq, HMI, HFI⟩ := hrel
  have hsw := HFI.out.size
  have hbk := HFI.out.keep _ _ _ HBK.out (by decide) (by decide)
  have hbx := HFI.out.keep _ _ _ HBX.out (by decide) (by decide)
  have hbl1 := hbk.lt
  have hbl2 := hbx.lt
  have k0 := hbk.cell 0
  have k1 := hbk.cell 1
  have k2 := hbk.cell 2
  have k3 := hbk.cell 3
  have k4 := hbk.cell 4
  have b2 := hbx.cell 2
  have b3 := hbx.cell 3
  simp only [List.getElem?_toArray, List.getElem?_cons_succ, List.getElem?_cons_zero] at k0 k1 k2 k3 k4 b2 b3
  clear hbk hbx y0 y1
  by_cases hi : i < q
  · have HCC := Lib.hid (HC.out wr (iterP f i ps) HMI.out (Nat.le_trans HB0.out hsw) (HNV.out.fr HFI.out) (by rw [← iterP_succ f]; exact HBI.out (i + 1) hi))
    go_wp2_with fail
    refine HCC.out.mono ?_
    rintro e1 w1 ⟨rfl, hm1, hf1⟩
    have HM1 : Hid (Mk B w1 m (iterP f (i + 1) ps)) := by show Mk _ _ _ _; rw [iterP_succ]; exact hm1
    have HF1 := Lib.hid (HFI.out.trans hf1)
    clear hm1 hf1 HCC
    go_wp2_with fail
    go_roundw
    case rel => exact ⟨i + 1, by go_num, by omega, HM1.out, HF1.out⟩
    case measure => simp [intOf] <;> omega
  · obtain rfl : i = q := by omega
    have HL1 := Lib.hid (HBI.out i (Nat.le_refl _))
    by_cases hneg : mx < 0
    · have HR2 : Hid (R = starP f (iterP f i ps)) := by show _ = _; rw [← HR.out, repP, if_pos hneg, Int.toNat_natCast]
      obtain ⟨P, hP⟩ : ∃ P, iterP f i ps = P := ⟨_, rfl⟩
      rw [hP] at HMI HR2 HL1
      have HS := Lib.hid (split_any HMI.out (Nat.le_trans HL1.out (by omega)))
      have HLF : Hid ((f (splitP P)).length + 1 ≤ 4000) := by show _ ≤ _; rw [← starP_len, ← HR2.out]; exact HBD.out
      have HLG : Hid (P.length + 1 ≤ (f (splitP P)).length) := by have := HG.out (splitP P); rw [split_len] at this; exact this
      obtain ⟨np, hnp⟩ : ∃ np, P.length = np := ⟨_, rfl⟩
      have HNP := Lib.hid hnp
      rw [hnp] at HS HLG HL1
      clear hP hnp HBI
      go_wp2_with fail
      refine HS.out.mono ?_
      rintro e1 w1 ⟨rfl, hm1, hf1⟩
      have hfr1 := HFI.out.trans hf1
      have HF1 := Lib.hid hfr1
      have HCC := Lib.hid (HC.out w1 (splitP P) hm1 (Nat.le_trans HB0.out hfr1.size) (HNV.out.fr hfr1) (by have := HLF.out; omega))
      have hbk := hfr1.keep _ _ _ HBK.out (by decide) (by decide)
      have hbl3 := hbk.lt
      have j0 := hbk.cell 0
      have j1 := hbk.cell 1
      have j2 := hbk.cell 2
      have j3 := hbk.cell 3
      have j4 := hbk.cell 4
      simp only [List.getElem?_toArray, List.getElem?_cons_succ, List.getElem?_cons_zero] at j0 j1 j2 j3 j4
      clear hm1 hf1 hfr1 hbk HS
      go_wp2_with fail
      refine HCC.out.mono ?_
      rintro e2 w2 ⟨rfl, hm2, hf2⟩
      have HF2 := Lib.hid (HF1.out.trans hf2)
      have HJ := Lib.hid (jump_any (to := (np : Int)) hm2 (by have := HLF.out; omega))
      clear hm2 hf2 HCC j0 j1 j2 j3 j4
      go_wp2_with fail
      refine HJ.out.mono ?_
      rintro e3 w3 ⟨rfl, hm3, hf3⟩
      have HF3 := Lib.hid (HF2.out.trans hf3)
      have HQ : Hid (R = (jumpP (np : Int) (f (splitP P))).modify np (setY ((jumpP (np : Int) (f (splitP P))).length : Int))) := by show _ = _; rw [HR2.out, starP, HNP.out]
      have hql : (jumpP (np : Int) (f (splitP P))).length = (f (splitP P)).length + 1 := jump_len _ _
      obtain ⟨Q, hQ⟩ : ∃ Q, jumpP (np : Int) (f (splitP P)) = Q := ⟨_, rfl⟩
      rw [hQ] at hm3 HQ hql
      obtain ⟨g, off2, c, svs, hA, hc⟩ := hm3.form (by omega)
      have hnpq : np < Q.length := by have := HLG.out; omega
      obtain ⟨y0, z0, hml, hgl, -, ⟨u3, c3⟩, -, f3⟩ := hA.cells np hnpq
      have hgm := hA.ne
      obtain ⟨hA2, hF4⟩ := hA.y (i := np) hnpq (Q.length : Int)
      have HA2 := Lib.hid (hA2.mk_.under (Below.refl _ _).drew)
      have HF4 := Lib.hid (HFR0.out.trans (HF3.out.trans hF4))
      have hq4 : Q.length ≤ 4000 := by have := HLF.out; omega
      clear hA hA2 hF4 hm3 hf3 HJ hQ hql b2 b3 k0 k1 k2 k3 k4
      go_upto_region 10 with fail
      go_region
      go_wp2_with fail
      go_returns
      exact ⟨rfl, by rw [HQ.out]; exact HA2.out, HF4.out.drew_⟩
    · obtain ⟨D, hD⟩ : ∃ D : Nat, mx - (i : Int) = (D : Int) := ⟨(mx - (i : Int)).toNat, by omega⟩
      have hD50 : D ≤ 50 := by omega
      have HR2 : Hid (R = endY (manyP f D (iterP f i ps) []).1 (manyP f D (iterP f i ps) []).2) := by show _ = _; rw [← HR.out, repP, if_neg hneg, Int.toNat_natCast, hD, Int.toNat_natCast]
      obtain ⟨P, hP⟩ : ∃ P, iterP f i ps = P := ⟨_, rfl⟩
      rw [hP] at HMI HR2 HL1
      have HMB : Hid (∀ j, j ≤ D → (manyP f j P []).1.length ≤ 4000) := fun j hj => by
        have h1 := manyP_le HG.out P [] hj
        have h2 := HBD.out
        rw [HR2.out, endY_len] at h2
        omega
      have HNS : Hid (∀ j, (manyP f j P []).2.length = j) := fun j => by rw [manyP_slen]; simp
      have HDD := Lib.hid hD
      clear hP HBI
      go_wp2_with fail
      clear hD
      go_loopw [6, 49] (fun v6 iv wr => ∃ j : Nat, iv = .int .i64 (j : Int) ∧ j ≤ D ∧ Hid (Mk B wr m (manyP f j P []).1) ∧ Hid (NsO wr v6 (manyP f j P []).2) ∧ Hid (∀ k, v6.ownBlock = some k → w0.heap.size ≤ k) ∧ Hid (Fr B w0 wr)) (fun _ iv _ => D - (intOf iv).toNat)
      case atStart => exact ⟨0, rfl, by omega, HMI.out, Own.nil_ _ _ _, by simp [Hid, Value.ownBlock], HFI.out⟩
      case round =>
      obtain ⟨j, rfl, hjD, HMj, HNj, HKj, HFj⟩ := hrel
      have hsj := HFj.out.size
      have hbk := HFj.out.keep _ _ _ HBK.out (by decide) (by decide)
      have hblj := hbk.lt
      by_cases hj : j < D
      · obtain ⟨P2, hP2⟩ : ∃ P2, manyP f j P [] = P2 := ⟨_, rfl⟩
        have hP3 := manyP_succ f j P []
        have hlj := HMB.out j hjD
        have hlj1 := HMB.out (j + 1) hj
        have hnj := HNS.out j
        rw [hP2] at HMj HNj hP3 hlj hnj
        rw [hP3] at hlj1
        obtain ⟨Q, ss⟩ := P2
        simp only at HMj HNj hP3 hlj hnj hlj1
        have HLF : Hid ((f (splitP Q)).length ≤ 4000) := hlj1
        have HS := Lib.hid (split_any HMj.out (by omega))
        have HP3 := Lib.hid hP3
        obtain ⟨nq, hnq⟩ : ∃ nq, Q.length = nq := ⟨_, rfl⟩
        have HNQ := Lib.hid hnq
        obtain ⟨A8, c8, rfl, hc8, -⟩ := HNj.out.len_
        have hss : ss.length ≤ 50 := by omega
        have hssl := Lib.hid hnj
        rw [hnq] at HS
        have hq4 : nq ≤ 4000 := by omega
        clear hP2 hP3 hnq hnj hlj hlj1 hbk hc8 k0 k1 k2 k3 k4 b2 b3 hbl1 hbl2
        go_wp2_with fail
        refine HS.out.mono ?_
        rintro e1 w1 ⟨rfl, hm1, hf1⟩
        have HFj1 := Lib.hid (HFj.out.trans hf1)
        have HMj1 := Lib.hid hm1
        have HNj1 := Lib.hid (HNj.out.fr hf1)
        have hs1 := hf1.size
        clear hm1 hf1 HS
        go_wp2_with (at_builtin; refine wpList_append_mine _ rfl (.tmp 51) (.tmp 54) _ rfl 3 i0 _ 1 8 Try.underlying38 hi0 hz0 hz1 hz2 rfl (by omega) (.slice A8 ss.length c8) ss.length (ss.map nV) rfl (by exact HNj1.out.alloc _) _ 1 1 [_] rfl rfl (by exact news_push rfl rfl) (by simp [Value.oneCell']) (by omega) (by simp only [maxLen]; omega) (by omega) _ rfl ?_; intro g5 o5 c5 w5 hown5 hgrow5 hat5; have HN5 := Lib.hid (ns_snoc hown5); have HF5 := Lib.hid (Fr.grown_ (HFj1.out.al (.cells #[.int .i64 (nq : Int)] 3) HB0.out) hgrow5 HB0.out HKj.out); have HM5 := Lib.hid (Mk.grown_ (HMj1.out.under (below_al (Below.refl _ _) (.cells #[.int .i64 (nq : Int)] 3))) (HNj1.out.alloc (.cells #[.int .i64 (nq : Int)] 3)) hgrow5); have HK5 := Lib.hid (ns_far (o := o5) (n := ss.length + 1) (c := c5) (B := w0.heap.size) HKj.out hat5 (by simp; omega)); have hbk5 := HF5.out.keep _ _ _ HBK.out (by decide) (by decide); have hbl5 := hbk5.lt; have j0 := hbk5.cell 0; have j1 := hbk5.cell 1; have j2 := hbk5.cell 2; have j3 := hbk5.cell 3; have j4 := hbk5.cell 4; simp only [List.getElem?_toArray, List.getElem?_cons_succ, List.getElem?_cons_zero] at j0 j1 j2 j3 j4; clear hown5 hgrow5 hat5 hbk5)
        refine (HC.out w5 (splitP Q) HM5.out (Nat.le_trans HB0.out HF5.out.size) (HNV.out.fr HF5.out) HLF.out).mono ?_
        rintro e2 w2 ⟨rfl, hm2, hf2⟩
        have HM2 : Hid (Mk B w2 m (manyP f (j + 1) P []).1) := by show Mk _ _ _ _; rw [HP3.out]; exact hm2
        have HN2 : Hid (NsO w2 (.slice (some ⟨g5, o5, none⟩) (ss.length + 1) c5) (manyP f (j + 1) P []).2) := by show NsO _ _ _; rw [HP3.out, HNQ.out]; exact HN5.out.fr hf2
        have HF2 := Lib.hid (HF5.out.trans hf2)
        clear hm2 hf2 j0 j1 j2 j3 j4
        go_wp2_with fail
        go_roundw
        case rel => exact ⟨j + 1, by go_num, by omega, HM2.out, HN2.out, HK5.out, HF2.out⟩
        case measure => simp [intOf] <;> omega
      · obtain rfl : j = D := by omega
        obtain ⟨P2, hP2⟩ : ∃ P2, manyP f j P [] = P2 := ⟨_, rfl⟩
        have hlj := HMB.out j (Nat.le_refl _)
        have hnj := HNS.out j
        have hlt := manyP_lt HG.out j P [] (by simp)
        rw [hP2] at HMj HNj hlj hnj HR2 hlt
        obtain ⟨Q, ss⟩ := P2
        simp only at HMj HNj hlj hnj HR2 hlt
        have HLT := Lib.hid hlt
        have HLQ := Lib.hid hlj
        obtain ⟨A8, c8, rfl, hc8, -⟩ := HNj.out.len_
        have hrd := Own.rd HNj.out
        have HRD := Lib.hid hrd
        obtain ⟨ns, hns⟩ : ∃ ns, ss.length = ns := ⟨_, rfl⟩
        have HNS2 := Lib.hid hns
        rw [hns] at hc8 HRD hrd hnj ⊢
        have hns50 : ns ≤ 50 := by omega
        clear hP2 hnj hlj hbk hns hlt k0 k1 k2 k3 k4 b2 b3 hbl1 hbl2 hrd
        go_wp2_with fail
        go_loopw [62] (fun iv wx => ∃ k : Nat, iv = .int .i64 (k : Int) ∧ k ≤ ns ∧ Hid (Mk B wx m (endY Q (ss.take k))) ∧ Hid (Fr B wr wx)) (fun iv _ => ns - (intOf iv).toNat)
        case atStart => exact ⟨0, rfl, by omega, HMj.out, Fr.refl _ _⟩
        case round =>
        obtain ⟨k, rfl, hkn, HMk, HFk⟩ := hrel
        by_cases hk : k < ns
        · have hcl : k < ss.length := by rw [HNS2.out]; exact hk
          obtain ⟨s, hsk⟩ : ∃ s, ss[k]? = some s := ⟨_, List.getElem?_eq_getElem hcl⟩
          have hsq := HLT.out s (List.mem_of_getElem? hsk)
          obtain ⟨b8, o8, rfl, hb8, hcell⟩ := HRD.out.2 (by omega)
          have cs := hcell k (by omega)
          rw [List.getElem?_map, hsk] at cs
          have cs2 : wr.cell? ⟨b8, o8 + k, none⟩ = some (.int .i64 (s : Int)) := by
            have hfx := Own.fr HNj.out HFk.out (by decide) (by decide)
            obtain ⟨b9, o9, e9, -, hc9⟩ := hfx.rd.2 (by omega)
            simp only [Option.some.injEq, Addr.mk.injEq, and_true] at e9
            obtain ⟨rfl, rfl⟩ := e9
            have := hc9 k (by rw [HNS2.out]; omega)
            rw [List.getElem?_map, hsk] at this
            exact this
          have hbx8 : b8 < wr.heap.size := Nat.lt_of_lt_of_le hb8 HFk.out.size
          have HT : Hid (ss.take (k + 1) = ss.take k ++ [s]) := take_snoc hsk
          have hql : (endY Q (ss.take k)).length = Q.length := endY_len _ _
          have hE := endY_snoc Q (ss.take k) s
          rw [← take_snoc hsk] at hE
          have HE := Lib.hid hE
          have hq4 : (endY Q (ss.take k)).length ≤ 4000 := by rw [hql]; exact HLQ.out
          have hsq2 : s < (endY Q (ss.take k)).length := by rw [hql]; exact hsq
          obtain ⟨Z, hZ⟩ : ∃ Z, endY Q (ss.take k) = Z := ⟨_, rfl⟩
          rw [hZ] at HMk HE hq4 hsq2
          obtain ⟨g, off2, c, svs, hA, hc⟩ := HMk.out.form (by omega)
          obtain ⟨y0, z0, hml, hgl, -, ⟨u3, c3⟩, -, f3⟩ := hA.cells s hsq2
          have hgm := hA.ne
          obtain ⟨hA2, hF4⟩ := hA.y (i := s) hsq2 (Z.length : Int)
          have HA2 : Hid (Mk B (wr.setCell ⟨g, off2 + s * 4 + 3, none⟩ (.int .i64 (Z.length : Int))).drew m (endY Q (ss.take (k + 1)))) := by show Mk _ _ _ _; rw [HE.out]; exact hA2.mk_.under (Below.refl _ _).drew
          have HF4 := Lib.hid (HFk.out.trans hF4).drew_
          clear hA hA2 hF4 hZ hql hE hsk hcell cs hsq hcl
          go_upto_region 20 with fail
          go_region
          go_wp2_with fail
          go_roundw
          case rel => exact ⟨k + 1, by go_num, by omega, HA2.out, HF4.out⟩
          case measure => simp [intOf] <;> omega
        · obtain rfl : k = ns := by omega
          have HM9 : Hid (Mk B wr m R) := by
            have := HMk.out
            rw [List.take_of_length_le (by rw [HNS2.out]; omega), ← HR2.out] at this
            exact this
          have HF9 := Lib.hid (HFR0.out.trans (HFj.out.trans HFk.out))
          go_wp2_with fail
          go_end0
          exact ⟨rfl, HM9.out, HF9.out⟩
end Go.Proofs.Ytgfienopijlnkaa
