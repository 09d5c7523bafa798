/-
  The contract of prog's node, given alt's; no condition beyond those that each theorem states.
-/
import Derived.Test.YtgfienopijlnkaaRep
namespace Go.Proofs.Ytgfienopijlnkaa
open Go.RowKit Go.Rb
attribute [local irreducible] Go.wpQuiet

/-- What alt does. -/
def AltC (kids : List Nd) : Prop := ∀ (B m : Nat) (w : World) (S : Nat → Prop) (ps : List Ins) (set : List (Int × Int)) (mn mx : Int) (sv : Value) (A4 : Option Addr) (m4 : Nat), Mk B w m ps → B ≤ w.heap.size → NdV w S (ndV 5 sv mn mx (.slice A4 kids.length m4)) (.mk 5 set mn mx kids) → (endXY (altP kids ps []).1 (altP kids ps []).2).length ≤ 4000 →
  Calls Try.prog 23 #[.pointer (some ⟨m, 0, none⟩), .slice A4 kids.length m4] w fun e w' => e = .returned (.tuple #[]) ∧ Mk B w' m (endXY (altP kids ps []).1 (altP kids ps []).2) ∧ Fr B w w'
theorem nodesP_snoc (l : List Nd) (k : Nd) : ∀ ps, nodesP (l ++ [k]) ps = nodeP k (nodesP l ps) := by
  induction l with
  | nil => intro ps; rw [List.nil_append, nodesP, nodesP, nodesP]
  | cons a l ih => intro ps; rw [List.cons_append, nodesP, ih, nodesP]
theorem nodesP_le {kids : List Nd} (h : ∀ k ∈ kids, Grows (nodeP k)) (ps : List Ins) (i : Nat) : (nodesP (kids.take i) ps).length ≤ (nodesP kids ps).length := by
  have key : ∀ (a b : List Nd) (ps : List Ins), nodesP (a ++ b) ps = nodesP b (nodesP a ps) := by
    intro a
    induction a with
    | nil => intro b ps; rw [List.nil_append, nodesP]
    | cons x a ih => intro b ps; rw [List.cons_append, nodesP, ih, nodesP]
  have e : nodesP kids ps = nodesP (kids.drop i) (nodesP (kids.take i) ps) := by rw [← key, List.take_append_drop]
  rw [e]
  exact nodesP_grows (fun k hk => h k (List.mem_of_mem_drop hk)) _
set_option maxRecDepth 20000 in
set_option maxHeartbeats 4000000 in
theorem node_step {op mn mx : Int} {set : List (Int × Int)} {kids : List Nd} (hok : OkN (.mk op set mn mx kids)) (hk : ∀ k ∈ kids, NodeC k) (halt : op = 5 → AltC kids) : NodeC (.mk op set mn mx kids) := by
  intro B m w S v ps hM hB hv hb
  have hgk : ∀ k ∈ kids, Grows (nodeP k) := by
    cases hok with
    | mk _ _ _ _ _ _ _ _ _ _ h => exact fun k hk => nodeP_grows (h k hk)
  obtain ⟨A1, m1, A4, m4, rfl, hm4, hset, -⟩ := hv.kids
  have HFA : Fr B w (w.alloc (.cells #[.int .i64 op, .slice A1 set.length m1, .int .i64 mn, .int .i64 mx, .slice A4 kids.length m4] 28)) := Fr.of_below (below_al (Below.refl _ _) _) hB
  have HMA := hM.under (below_al (Below.refl w.heap.size w) (.cells #[.int .i64 op, .slice A1 set.length m1, .int .i64 mn, .int .i64 mx, .slice A4 kids.length m4] 28))
  have hvA := hv.fr HFA
  have hlp : ps.length ≤ 4000 := Nat.le_trans (nodeP_grows hok ps) hb
  have hkl : kids.length ≤ 1000 := by cases hok; assumption
  have hsl : set.length ≤ 1000 := by cases hok; assumption
  have hsetA := hset.fr HFA
  have hBA : B ≤ (w.alloc (.cells #[.int .i64 op, .slice A1 set.length m1, .int .i64 mn, .int .i64 mx, .slice A4 kids.length m4] 28)).heap.size := Nat.le_trans hB HFA.size
  have hbkA := Blk.new w 28 #[.int .i64 op, .slice A1 set.length m1, .int .i64 mn, .int .i64 mx, .slice A4 kids.length m4]
  have HOK := Lib.hid hok
  have HKN := Lib.hid hk
  have HGK := Lib.hid hgk
  have HALT := Lib.hid halt
  clear hM hB hv hset hgk hok hk halt
  unfold ndV at hvA ⊢
  go_enter Try.func14, Try.ntmps14
  go_upto_region 1 with fail
  generalize w.alloc (.cells #[.int .i64 op, .slice A1 set.length m1, .int .i64 mn, .int .i64 mx, .slice A4 kids.length m4] 28) = w0 at HFA HMA hvA hsetA hBA hbkA ⊢
  have y0 := hbkA.cell 0
  have y1 := hbkA.cell 1
  have y2 := hbkA.cell 2
  have y3 := hbkA.cell 3
  have y4 := hbkA.cell 4
  simp only [List.getElem?_toArray, List.getElem?_cons_succ, List.getElem?_cons_zero] at y0 y1 y2 y3 y4
  have hs0 := hbkA.lt
  have HF0 := Lib.hid HFA
  have HM0 := Lib.hid HMA
  have HV0 : Hid (NdV w0 S (ndV op (.slice A1 set.length m1) mn mx (.slice A4 kids.length m4)) (.mk op set mn mx kids)) := hvA
  have HS0 := Lib.hid hsetA
  have HB0 := Lib.hid hBA
  have HBD := Lib.hid hb
  have HBK := Lib.hid hbkA
  clear HFA HMA hvA hsetA hBA hb hbkA
  by_cases e1 : op = 1
  · subst e1
    have HR : Hid (nodeP (.mk 1 set mn mx kids) ps = ps ++ [⟨1, set, (ps.length : Int) + 1, 0⟩]) := by show _ = _; rw [nodeP]; rfl
    have HP := Lib.hid (put_set (op := 1) HM0.out HS0.out hsl (by omega))
    go_wp2_with fail
    refine HP.out.mono ?_
    rintro e w1 ⟨rfl, hm, hf⟩
    have HM := Lib.hid hm
    have HF := Lib.hid (HF0.out.trans hf)
    clear hm hf
    go_wp2_with fail
    go_end0
    exact ⟨rfl, by rw [HR.out]; exact HM.out, HF.out⟩
  have F1 : (op == 1) = false := by simpa using e1
  by_cases e2 : op = 2
  · subst e2
    have HR : Hid (nodeP (.mk 2 set mn mx kids) ps = ps ++ [⟨3, [], (ps.length : Int) + 1, 0⟩]) := by show _ = _; rw [nodeP]; rfl
    have HP := Lib.hid (put_set (op := 3) HM0.out (SetV.nil_ w0) (by simp) (by omega))
    go_wp2_with fail
    refine HP.out.mono ?_
    rintro e w1 ⟨rfl, hm, hf⟩
    have HM := Lib.hid hm
    have HF := Lib.hid (HF0.out.trans hf)
    clear hm hf
    go_wp2_with fail
    go_end0
    exact ⟨rfl, by rw [HR.out]; exact HM.out, HF.out⟩
  have F2 : (op == 2) = false := by simpa using e2
  by_cases e3 : op = 3
  · subst e3
    have HR : Hid (nodeP (.mk 3 set mn mx kids) ps = ps ++ [⟨4, [], (ps.length : Int) + 1, 0⟩]) := by show _ = _; rw [nodeP]; rfl
    have HP := Lib.hid (put_set (op := 4) HM0.out (SetV.nil_ w0) (by simp) (by omega))
    go_wp2_with fail
    refine HP.out.mono ?_
    rintro e w1 ⟨rfl, hm, hf⟩
    have HM := Lib.hid hm
    have HF := Lib.hid (HF0.out.trans hf)
    clear hm hf
    go_wp2_with fail
    go_end0
    exact ⟨rfl, by rw [HR.out]; exact HM.out, HF.out⟩
  have F3 : (op == 3) = false := by simpa using e3
  by_cases e4 : op = 4
  · subst e4
    have HR : Hid (nodeP (.mk 4 set mn mx kids) ps = nodesP kids ps) := by show _ = _; rw [nodeP]; rfl
    rw [HR.out] at HBD
    obtain ⟨nk, hnk⟩ : ∃ nk, kids.length = nk := ⟨_, rfl⟩
    have HNK := Lib.hid hnk
    rw [hnk] at y4 hkl hm4 HV0 ⊢
    clear hnk
    go_wp2_with fail
    go_loopw [27] (fun iv wr => ∃ i : Nat, iv = .int .i64 (i : Int) ∧ i ≤ nk ∧ Hid (Mk B wr m (nodesP (kids.take i) ps)) ∧ Hid (Fr B w0 wr)) (fun iv _ => nk - (intOf iv).toNat)
    case atStart => exact ⟨0, rfl, by omega, by show Mk _ _ _ _; rw [List.take_zero, nodesP]; exact HM0.out, Fr.refl _ _⟩
    case round =>
    obtain ⟨i, rfl, hin, HMI, HFI⟩ := hrel
    by_cases hi : i < nk
    · have hcl : i < kids.length := by rw [HNK.out]; exact hi
      obtain ⟨k, hki⟩ : ∃ k, kids[i]? = some k := ⟨_, List.getElem?_eq_getElem hcl⟩
      obtain ⟨A1', m1', A4', m4', e, -, -, hkid⟩ := (HV0.out.fr HFI.out).kids
      rw [HNK.out] at e
      simp only [ndV, Value.agg.injEq, Array.mk.injEq, List.cons.injEq, Value.slice.injEq, true_and, and_true] at e
      obtain ⟨⟨rfl, rfl⟩, rfl, rfl⟩ := e
      obtain ⟨b, off, x0, A5, n5, m5, x2, x3, A6, n6, m6, rfl, hbl, hnv, c0, c1, c2, c3, c4⟩ := hkid wr (Below.refl _ _) i k hki
      have htk : kids.take (i + 1) = kids.take i ++ [k] := by rw [List.take_add_one, hki]; rfl
      have hst : nodesP (kids.take (i + 1)) ps = nodeP k (nodesP (kids.take i) ps) := by rw [htk, nodesP_snoc]
      have hbdi := Nat.le_trans (nodesP_le HGK.out ps (i + 1)) HBD.out
      rw [hst] at hbdi
      have HST := Lib.hid hst
      have hfa : Fr B wr (wr.alloc (.cells #[.int .i64 x0, .slice A5 n5 m5, .int .i64 x2, .int .i64 x3, .slice A6 n6 m6] 28)) := Fr.of_below (below_al (Below.refl _ _) _) (Nat.le_trans HB0.out HFI.out.size)
      have HC := Lib.hid (HKN.out k (List.mem_of_getElem? hki) B m _ S _ _ (HMI.out.under (below_al (Below.refl wr.heap.size wr) (.cells #[.int .i64 x0, .slice A5 n5 m5, .int .i64 x2, .int .i64 x3, .slice A6 n6 m6] 28))) (Nat.le_trans (Nat.le_trans HB0.out HFI.out.size) hfa.size) (hnv.fr hfa) hbdi)
      have HFA := Lib.hid (HFI.out.trans hfa)
      unfold ndV at HC
      clear hki hcl hkid hnv htk hst hbdi hfa
      go_wp2_with fail
      refine HC.out.mono ?_
      rintro e w1 ⟨rfl, hm, hf⟩
      have HM : Hid (Mk B w1 m (nodesP (kids.take (i + 1)) ps)) := by show Mk _ _ _ _; rw [HST.out]; exact hm
      have HF := Lib.hid (HFA.out.trans hf)
      clear hm hf
      go_wp2_with fail
      go_roundw
      case rel => exact ⟨i + 1, by go_num, by omega, HM.out, HF.out⟩
      case measure => simp [intOf] <;> omega
    · obtain rfl : i = nk := by omega
      have HM : Hid (Mk B wr m (nodesP kids ps)) := by
        have := HMI.out
        rw [List.take_of_length_le (by rw [HNK.out]; omega)] at this
        exact this
      have HF := Lib.hid (HF0.out.trans HFI.out)
      go_wp2_with fail
      go_end0
      exact ⟨rfl, by rw [HR.out]; exact HM.out, HF.out⟩
  have F4 : (op == 4) = false := by simpa using e4
  by_cases e5 : op = 5
  · subst e5
    have HR : Hid (nodeP (.mk 5 set mn mx kids) ps = endXY (altP kids ps []).1 (altP kids ps []).2) := by show _ = _; rw [nodeP]; rfl
    rw [HR.out] at HBD
    have HC := Lib.hid (HALT.out rfl B m w0 S ps set mn mx _ A4 m4 HM0.out HB0.out HV0.out HBD.out)
    go_wp2_with fail
    refine HC.out.mono ?_
    rintro e w1 ⟨rfl, hm, hf⟩
    have HM := Lib.hid hm
    have HF := Lib.hid (HF0.out.trans hf)
    clear hm hf
    go_wp2_with fail
    go_end0
    exact ⟨rfl, by rw [HR.out]; exact HM.out, HF.out⟩
  have F5 : (op == 5) = false := by simpa using e5
  by_cases e6 : op = 6
  · subst e6
    have hok := HOK.out
    obtain ⟨kid, hkid, b1, b2, b3, b4⟩ : ∃ kid, kids = [kid] ∧ 0 ≤ mn ∧ mn ≤ 50 ∧ mx ≤ 50 ∧ (mx = -1 ∨ mn ≤ mx) := by
      cases hok with
      | mk _ _ _ _ _ _ h6 =>
        obtain ⟨h1, h2⟩ := h6 rfl
        match kids, h1 with
        | [k], _ => exact ⟨k, rfl, h2⟩
    subst hkid
    have HR : Hid (nodeP (.mk 6 set mn mx [kid]) ps = repP (nodeP kid) mn mx ps) := by show _ = _; rw [nodeP]; rfl
    rw [HR.out] at HBD
    have HC := Lib.hid (rep_any (HKN.out kid (by simp)) (HGK.out kid (by simp)) HM0.out HB0.out HV0.out b1 b2 b3 b4 HBD.out)
    unfold ndV at HC
    clear hok
    go_wp2_with fail
    refine HC.out.mono ?_
    rintro e w1 ⟨rfl, hm, hf⟩
    have HM := Lib.hid hm
    have HF := Lib.hid (HF0.out.trans hf)
    clear hm hf
    go_wp2_with fail
    go_end0
    exact ⟨rfl, by rw [HR.out]; exact HM.out, HF.out⟩
  have F6 : (op == 6) = false := by simpa using e6
  have HR : Hid (nodeP (.mk op set mn mx kids) ps = ps) := by show _ = _; rw [nodeP, if_neg e1, if_neg e2, if_neg e3, if_neg e4, if_neg e5, if_neg e6]
  go_wp2_with fail
  go_end0
  exact ⟨rfl, by rw [HR.out]; exact HM0.out, HF0.out⟩
end Go.Proofs.Ytgfienopijlnkaa
