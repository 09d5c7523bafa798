/-
  the contracts of reedbedref10's Length, Copies and Hollow; the law's made, and a program that was made as one that is read; how a program, its sets too, reads as it came in; the document's example for layer 11: plain laws; the document's example: awake returns true; the law MatchAny returns true; no condition beyond those that each theorem states.
-/
import Derived.Test.YtjfkppbfckgckaaG07
import Derived.Lib.MinMax
import Derived.Test.YtjfkppbfckgckaaG08
import Derived.Test.YtjfkppbfckgckaaG10
import Derived.ChangeShapes
import Derived.WideShapes
import Derived.Deep.Slices
import Derived.Deep.Fields
import Derived.ProofKit
import Derived.OpenShut
import Derived.Test.YtjfkppbfckgckaaG11
import Derived.Test.YtjfkppbfckgckaaG13
set_option linter.unusedVariables false
set_option linter.unusedSimpArgs false
namespace Go.Proofs.Ytjfkppbfckgckaa
set_option maxRecDepth 20000
open Go.RowKit Go.Rb
attribute [local irreducible] Go.wpQuiet

def rlenTop (op mn mx n all : Int) : Int :=
  if op = 0 then 0 else if op = 1 ∨ op = 2 ∨ op = 3 then 1 else min (if op = 5 then all + 2 * n - 2 else if op = 6 then mn * all + (if mx < 0 then all + 2 else (mx - mn) * (all + 1)) else all) 1099511627776
mutual
def rlenC : Nd → Int
  | .mk op _ mn mx kids => rlenTop op mn mx kids.length (rlenK kids 0)
def rlenK : List Nd → Int → Int
  | [], acc => acc
  | k :: ks, acc => rlenK ks (acc + rlenC k)
end
theorem rlenK_bd (ks : List Nd) (hk : ∀ k ∈ ks, 0 ≤ rlenC k ∧ rlenC k ≤ 1099511627776) : ∀ acc : Int, 0 ≤ acc → 0 ≤ rlenK ks acc ∧ rlenK ks acc ≤ acc + 1099511627776 * (ks.length : Int) := by
  induction ks with
  | nil => intro acc h1; simp only [rlenK, List.length_nil]; omega
  | cons k ks ih =>
    intro acc h1
    have := hk k (by simp)
    rw [rlenK]
    have := ih (fun k hk' => hk k (by simp [hk'])) (acc + rlenC k) (by omega)
    simp only [List.length_cons]
    omega
theorem rlenC_bd {n : Nd} (h : OkN n) : 0 ≤ rlenC n ∧ rlenC n ≤ 1099511627776 := by
  induction h with
  | mk op mn mx set kids h0 h6 h5 hl hs hk ih =>
    have hK := rlenK_bd kids ih 0 (by omega)
    rw [rlenC, rlenTop]
    by_cases e0 : op = 0
    · rw [if_pos e0]; omega
    rw [if_neg e0]
    by_cases e1 : op = 1 ∨ op = 2 ∨ op = 3
    · rw [if_pos e1]; omega
    rw [if_neg e1]
    by_cases e5 : op = 5
    · rw [if_pos e5]; have := h5 e5; omega
    rw [if_neg e5]
    by_cases e6 : op = 6
    · rw [if_pos e6]
      obtain ⟨hl1, b1, b2, b3, b4⟩ := h6 e6
      rw [hl1] at hK
      have p1 := mulbd (a := mn) (b := rlenK kids 0) b1 b2 hK.1 hK.2
      by_cases em : mx < 0
      · rw [if_pos em]
        omega
      · rw [if_neg em]
        have p2 := mulbd (a := mx - mn) (b := rlenK kids 0 + 1) (A := 50) (B := 1099511627777) (by omega) (by omega) (by omega) (by omega)
        omega
    rw [if_neg e6]
    omega
theorem rlenK_drop {kids : List Nd} {i : Nat} {k : Nd} {acc : Int} (hi : kids[i]? = some k) : rlenK (kids.drop i) acc = rlenK (kids.drop (i + 1)) (acc + rlenC k) := by
  obtain ⟨hil, rfl⟩ := List.getElem?_eq_some_iff.1 hi
  rw [List.drop_eq_getElem_cons hil, rlenK]
set_option maxHeartbeats 2000000 in
theorem rlen_any {n : Nd} (hok : OkN n) : ∀ (w : World) (S : Nat → Prop) (v : Value), NdV w S v n → Calls Try.prog 23 #[v] w fun e w' => e = .returned (.int .i64 (rlenC n)) ∧ Below w.heap.size w w' := by
  induction hok with
  | mk op mn mx set kids h0 h6 h5 hkl hsl hok ih =>
    intro w S v hv
    obtain ⟨A1, m1, A4, m4, rfl, hm4, hset, hkid⟩ := hv.kids
    have HKID := Lib.hid hkid
    have HIH := Lib.hid ih
    have HOK := Lib.hid hok
    have HH6 := Lib.hid h6
    have HH5 := Lib.hid h5
    obtain ⟨LK, hLK⟩ : ∃ LK, rlenK kids 0 = LK := ⟨_, rfl⟩
    have HLK : Hid (rlenK (kids.drop 0) 0 = LK) := hLK
    have HLB := Lib.hid (rlenK_bd kids (fun k hk => rlenC_bd (hok k hk)) 0 (by omega))
    have HR : Hid (rlenC (.mk op set mn mx kids) = rlenTop op mn mx kids.length LK) := by show _ = _; rw [rlenC, hLK]
    rw [hLK] at HLB
    obtain ⟨R, hR⟩ : ∃ R, rlenC (.mk op set mn mx kids) = R := ⟨_, rfl⟩
    rw [hR] at HR ⊢
    clear hR hLK hkid ih hok h6 h5 hset
    obtain ⟨nk, hnk⟩ : ∃ nk, kids.length = nk := ⟨_, rfl⟩
    have HNK := Lib.hid hnk
    rw [hnk] at hm4 HR hkl HH5 HH6 HLB ⊢
    clear hnk
    unfold ndV
    go_enter Try.func23, Try.ntmps23
    go_wp2_with fail
    go_loopw [3, 4] (fun av iv wr => ∃ (i : Nat) (acc : Int), av = .int .i64 acc ∧ iv = .int .i64 (i : Int) ∧ i ≤ nk ∧ 0 ≤ acc ∧ acc ≤ 1099511627776 * (i : Int) ∧ Hid (Below w.heap.size w wr) ∧ Hid (Blk wr w.heap.size 52 #[.int .i64 op, .slice A1 set.length m1, .int .i64 mn, .int .i64 mx, .slice A4 nk m4]) ∧ Hid (rlenK (kids.drop i) acc = LK)) (fun _ iv _ => nk - (intOf iv).toNat)
    case atStart => exact ⟨0, 0, rfl, rfl, by omega, by omega, by omega, below_al (Below.refl _ _) _, Blk.new _ _ _, HLK.out⟩
    case round =>
    obtain ⟨i, acc, rfl, rfl, hin, ha0, ha1, HB, HBK, HL⟩ := hrel
    have hlt := HBK.out.lt
    have y4 := HBK.out.cell 4
    simp only [List.getElem?_toArray, List.getElem?_cons_succ, List.getElem?_cons_zero] at y4
    by_cases hi : i < nk
    · have hcl : i < kids.length := by rw [HNK.out]; exact hi
      obtain ⟨k, hk⟩ : ∃ k, kids[i]? = some k := ⟨_, List.getElem?_eq_getElem hcl⟩
      have hmem := List.mem_of_getElem? hk
      obtain ⟨b, off, x0, A5, n5, m5, x2, x3, A6, n6, m6, rfl, hb, hnv, c0, c1, c2, c3, c4⟩ := HKID.out wr HB.out i k hk
      have hbd := rlenC_bd (HOK.out k hmem)
      have HL2 := Lib.hid ((rlenK_drop (acc := acc) hk).symm.trans HL.out)
      have HC := Lib.hid (fun W (hW : Below wr.heap.size wr W) => HIH.out k hmem W S _ (hnv.under hW))
      obtain ⟨L, hL⟩ : ∃ L, rlenC k = L := ⟨_, rfl⟩
      rw [hL] at hbd HL2 HC
      obtain ⟨hbd0, hbd1⟩ := hbd
      clear hL hk hmem hcl hnv HL HLK
      unfold ndV at HC
      go_wp2_with fail
      refine (HC.out _ (Below.refl _ _)).mono ?_
      rintro e1 w1 ⟨rfl, hb1⟩
      have HB1 := Lib.hid (HB.out.trans (hb1.mono HB.out.size))
      have HBK1 := Lib.hid (HBK.out.below hb1 hlt)
      clear hb1 HC
      go_wp2_with fail
      go_roundw
      case rel => exact ⟨i + 1, acc + L, rfl, by go_num, by omega, by omega, by omega, HB1.out, HBK1.out, HL2.out⟩
      case measure => simp [intOf] <;> omega
    · obtain rfl : i = nk := by omega
      have hacc : acc = LK := by
        have := HL.out
        rw [List.drop_eq_nil_of_le (by rw [HNK.out]; omega), rlenK] at this
        exact this
      subst hacc
      have y0 := HBK.out.cell 0
      have y2 := HBK.out.cell 2
      have y3 := HBK.out.cell 3
      simp only [List.getElem?_toArray, List.getElem?_cons_succ, List.getElem?_cons_zero] at y0 y2 y3
      clear HL HLK
      by_cases e0 : op = 0
      · subst e0
        have HF : Hid (R = 0) := HR.out
        go_wp2_with fail
        go_ret
        exact ⟨by rw [HF.out]; rfl, HB.out⟩
      have F0 : (op == 0) = false := by simpa using e0
      by_cases e1 : op = 1
      · subst e1
        have HF : Hid (R = 1) := HR.out
        go_wp2_with fail
        go_ret
        exact ⟨by rw [HF.out]; rfl, HB.out⟩
      have F1 : (op == 1) = false := by simpa using e1
      by_cases e2 : op = 2
      · subst e2
        have HF : Hid (R = 1) := HR.out
        go_wp2_with fail
        go_ret
        exact ⟨by rw [HF.out]; rfl, HB.out⟩
      have F2 : (op == 2) = false := by simpa using e2
      by_cases e3 : op = 3
      · subst e3
        have HF : Hid (R = 1) := HR.out
        go_wp2_with fail
        go_ret
        exact ⟨by rw [HF.out]; rfl, HB.out⟩
      have F3 : (op == 3) = false := by simpa using e3
      by_cases e5 : op = 5
      · subst e5
        have h52 := HH5.out rfl
        have HF : Hid (R = min (acc + 2 * (i : Int) - 2) 1099511627776) := HR.out
        by_cases hbig : 1099511627776 < acc + 2 * (i : Int) - 2
        · have HF2 : Hid (R = 1099511627776) := by show _ = _; rw [HF.out]; omega
          go_wp2_with fail
          go_ret
          exact ⟨by rw [HF2.out]; rfl, HB.out⟩
        · have HF2 : Hid (R = acc + 2 * (i : Int) - 2) := by show _ = _; rw [HF.out]; omega
          go_wp2_with fail
          go_ret
          exact ⟨by rw [HF2.out]; rfl, HB.out⟩
      have F5 : (op == 5) = false := by simpa using e5
      by_cases e6 : op = 6
      · subst e6
        obtain ⟨hnk1, b1, b2, b3, b4⟩ := HH6.out rfl
        have ha1' : acc ≤ 1099511627776 := by omega
        obtain ⟨p1, p2⟩ := mulbd (a := mn) (b := acc) (by omega) b2 ha0 ha1'
        have HF : Hid (R = min (mn * acc + (if mx < 0 then acc + 2 else (mx - mn) * (acc + 1))) 1099511627776) := HR.out
        by_cases em : mx < 0
        · have e' : mx = -1 := by omega
          subst e'
          obtain ⟨p3, p4⟩ := mulbd (a := 50 - mn) (b := acc + 1) (A := 50) (B := 1099511627777) (by omega) (by omega) (by omega) (by omega)
          have p5 : (-1 - mn) * (acc + 1) = (50 - mn) * (acc + 1) - 51 * (acc + 1) := by rw [← Int.sub_mul]; congr 1; omega
          have q1 : -1000000000000000 ≤ (-1 - mn) * (acc + 1) := by omega
          have q2 : (-1 - mn) * (acc + 1) ≤ 1000000000000000 := by omega
          clear p3 p4 p5
          by_cases hbig : 1099511627776 < mn * acc + (acc + 2)
          · have HF2 : Hid (R = 1099511627776) := by show _ = _; rw [HF.out, if_pos (by decide)]; omega
            go_wp2_with fail
            go_ret
            exact ⟨by rw [HF2.out]; rfl, HB.out⟩
          · have HF2 : Hid (R = mn * acc + (acc + 2)) := by show _ = _; rw [HF.out, if_pos (by decide)]; omega
            go_wp2_with fail
            go_ret
            exact ⟨by rw [HF2.out]; rfl, HB.out⟩
        · obtain ⟨p3, p4⟩ := mulbd (a := mx - mn) (b := acc + 1) (A := 50) (B := 1099511627777) (by omega) (by omega) (by omega) (by omega)
          by_cases hbig : 1099511627776 < mn * acc + (mx - mn) * (acc + 1)
          · have HF2 : Hid (R = 1099511627776) := by show _ = _; rw [HF.out, if_neg em]; omega
            go_wp2_with fail
            go_ret
            exact ⟨by rw [HF2.out]; rfl, HB.out⟩
          · have HF2 : Hid (R = mn * acc + (mx - mn) * (acc + 1)) := by show _ = _; rw [HF.out, if_neg em]; omega
            go_wp2_with fail
            go_ret
            exact ⟨by rw [HF2.out]; rfl, HB.out⟩
      have F6 : (op == 6) = false := by simpa using e6
      have HF : Hid (R = min acc 1099511627776) := by show _ = _; rw [HR.out, rlenTop, if_neg e0, if_neg (by omega), if_neg e5, if_neg e6]
      by_cases hbig : 1099511627776 < acc
      · have HF2 : Hid (R = 1099511627776) := by show _ = _; rw [HF.out]; omega
        go_wp2_with fail
        go_ret
        exact ⟨by rw [HF2.out]; rfl, HB.out⟩
      · have HF2 : Hid (R = acc) := by show _ = _; rw [HF.out]; omega
        go_wp2_with fail
        go_ret
        exact ⟨by rw [HF2.out]; rfl, HB.out⟩

def cpTop (op mn mx all : Int) : Int := if op = 6 then min (all * (if mn + 1 < mx then mx else mn + 1)) 1099511627776 else all
mutual
def cpC : Nd → Int
  | .mk op _ mn mx kids => cpTop op mn mx (cpK kids 1)
def cpK : List Nd → Int → Int
  | [], acc => acc
  | k :: ks, acc => cpK ks (min (acc + cpC k) 1099511627776)
end
theorem cpK_bd (ks : List Nd) (hk : ∀ k ∈ ks, 0 ≤ cpC k ∧ cpC k ≤ 1099511627776) : ∀ acc : Int, 0 ≤ acc → acc ≤ 1099511627776 → 0 ≤ cpK ks acc ∧ cpK ks acc ≤ 1099511627776 := by
  induction ks with
  | nil => intro acc h1 h2; simp only [cpK]; omega
  | cons k ks ih =>
    intro acc h1 h2
    have := hk k (by simp)
    rw [cpK]
    exact ih (fun k hk' => hk k (by simp [hk'])) _ (by omega) (by omega)
theorem cpC_bd {n : Nd} (h : OkN n) : 0 ≤ cpC n ∧ cpC n ≤ 1099511627776 := by
  induction h with
  | mk op mn mx set kids h0 h6 h5 hl hs hk ih =>
    have hK := cpK_bd kids ih 1 (by omega) (by omega)
    rw [cpC, cpTop]
    by_cases e6 : op = 6
    · rw [if_pos e6]
      obtain ⟨hl1, b1, b2, b3, b4⟩ := h6 e6
      have p1 := mulbd (a := if mn + 1 < mx then mx else mn + 1) (b := cpK kids 1) (A := 51) (by split <;> omega) (by split <;> omega) hK.1 hK.2
      rw [Int.mul_comm] at p1
      omega
    · rw [if_neg e6]; exact hK
theorem cpK_drop {kids : List Nd} {i : Nat} {k : Nd} {acc : Int} (hi : kids[i]? = some k) : cpK (kids.drop i) acc = cpK (kids.drop (i + 1)) (min (acc + cpC k) 1099511627776) := by
  obtain ⟨hil, rfl⟩ := List.getElem?_eq_some_iff.1 hi
  rw [List.drop_eq_getElem_cons hil, cpK]
set_option maxHeartbeats 2000000 in
theorem cp_any {n : Nd} (hok : OkN n) : ∀ (w : World) (S : Nat → Prop) (v : Value), NdV w S v n → Calls Try.prog 38 #[v] w fun e w' => e = .returned (.int .i64 (cpC n)) ∧ Below w.heap.size w w' := by
  induction hok with
  | mk op mn mx set kids h0 h6 h5 hkl hsl hok ih =>
    intro w S v hv
    obtain ⟨A1, m1, A4, m4, rfl, hm4, hset, hkid⟩ := hv.kids
    have HKID := Lib.hid hkid
    have HIH := Lib.hid ih
    have HOK := Lib.hid hok
    have HH6 := Lib.hid h6
    obtain ⟨LK, hLK⟩ : ∃ LK, cpK kids 1 = LK := ⟨_, rfl⟩
    have HLK : Hid (cpK (kids.drop 0) 1 = LK) := hLK
    have HLB := Lib.hid (cpK_bd kids (fun k hk => cpC_bd (hok k hk)) 1 (by omega) (by omega))
    have HR : Hid (cpC (.mk op set mn mx kids) = cpTop op mn mx LK) := by show _ = _; rw [cpC, hLK]
    rw [hLK] at HLB
    obtain ⟨R, hR⟩ : ∃ R, cpC (.mk op set mn mx kids) = R := ⟨_, rfl⟩
    rw [hR] at HR ⊢
    clear hR hLK hkid ih hok h6 h5 hset
    obtain ⟨nk, hnk⟩ : ∃ nk, kids.length = nk := ⟨_, rfl⟩
    have HNK := Lib.hid hnk
    rw [hnk] at hm4 hkl HH6 ⊢
    clear hnk
    unfold ndV
    go_enter Try.func38, Try.ntmps38
    go_wp2_with fail
    go_loopw [3, 4] (fun av iv wr => ∃ (i : Nat) (acc : Int), av = .int .i64 acc ∧ iv = .int .i64 (i : Int) ∧ i ≤ nk ∧ 0 ≤ acc ∧ acc ≤ 1099511627776 ∧ Hid (Below w.heap.size w wr) ∧ Hid (Blk wr w.heap.size 52 #[.int .i64 op, .slice A1 set.length m1, .int .i64 mn, .int .i64 mx, .slice A4 nk m4]) ∧ Hid (cpK (kids.drop i) acc = LK)) (fun _ iv _ => nk - (intOf iv).toNat)
    case atStart => exact ⟨0, 1, rfl, rfl, by omega, by omega, by omega, below_al (Below.refl _ _) _, Blk.new _ _ _, HLK.out⟩
    case round =>
    obtain ⟨i, acc, rfl, rfl, hin, ha0, ha1, HB, HBK, HL⟩ := hrel
    have hlt := HBK.out.lt
    have y4 := HBK.out.cell 4
    simp only [List.getElem?_toArray, List.getElem?_cons_succ, List.getElem?_cons_zero] at y4
    by_cases hi : i < nk
    · have hcl : i < kids.length := by rw [HNK.out]; exact hi
      obtain ⟨k, hk⟩ : ∃ k, kids[i]? = some k := ⟨_, List.getElem?_eq_getElem hcl⟩
      have hmem := List.mem_of_getElem? hk
      obtain ⟨b, off, x0, A5, n5, m5, x2, x3, A6, n6, m6, rfl, hb, hnv, c0, c1, c2, c3, c4⟩ := HKID.out wr HB.out i k hk
      have hbd := cpC_bd (HOK.out k hmem)
      have HL2 := Lib.hid ((cpK_drop (acc := acc) hk).symm.trans HL.out)
      have HC := Lib.hid (fun W (hW : Below wr.heap.size wr W) => HIH.out k hmem W S _ (hnv.under hW))
      obtain ⟨L, hL⟩ : ∃ L, cpC k = L := ⟨_, rfl⟩
      rw [hL] at hbd HL2 HC
      obtain ⟨hbd0, hbd1⟩ := hbd
      clear hL hk hmem hcl hnv HL HLK
      unfold ndV at HC
      go_wp2_with fail
      refine (HC.out _ (Below.refl _ _)).mono ?_
      rintro e1 w1 ⟨rfl, hb1⟩
      have HB1 := Lib.hid (HB.out.trans (hb1.mono HB.out.size))
      have HBK1 := Lib.hid (HBK.out.below hb1 hlt)
      clear hb1 HC
      go_wp2_with fail
      go_roundw
      case rel => exact ⟨i + 1, min (acc + L) 1099511627776, rfl, by go_num, by omega, by omega, by omega, HB1.out, HBK1.out, HL2.out⟩
      case measure => simp [intOf] <;> omega
    · obtain rfl : i = nk := by omega
      have hacc : acc = LK := by
        have := HL.out
        rw [List.drop_eq_nil_of_le (by rw [HNK.out]; omega), cpK] at this
        exact this
      subst hacc
      have y0 := HBK.out.cell 0
      have y2 := HBK.out.cell 2
      have y3 := HBK.out.cell 3
      simp only [List.getElem?_toArray, List.getElem?_cons_succ, List.getElem?_cons_zero] at y0 y2 y3
      clear HL HLK
      by_cases e6 : op = 6
      · subst e6
        obtain ⟨hnk1, b1, b2, b3, b4⟩ := HH6.out rfl
        have HF : Hid (R = min (acc * (if mn + 1 < mx then mx else mn + 1)) 1099511627776) := HR.out
        by_cases em : mn + 1 < mx
        · obtain ⟨p1, p2⟩ := mulbd (a := acc) (b := mx) ha0 ha1 (by omega) b3
          have HF2 : Hid (R = min (acc * mx) 1099511627776) := by show _ = _; rw [HF.out, if_pos em]
          go_wp2_with fail
          go_ret
          exact ⟨by rw [HF2.out]; rfl, HB.out⟩
        · obtain ⟨p1, p2⟩ := mulbd (a := acc) (b := mn + 1) ha0 ha1 (by omega) (show mn + 1 ≤ 51 by omega)
          have HF2 : Hid (R = min (acc * (mn + 1)) 1099511627776) := by show _ = _; rw [HF.out, if_neg em]
          go_wp2_with fail
          go_ret
          exact ⟨by rw [HF2.out]; rfl, HB.out⟩
      have F6 : (op == 6) = false := by simpa using e6
      have HF : Hid (R = acc) := by show _ = _; rw [HR.out, cpTop, if_neg e6]
      go_wp2_with fail
      go_ret
      exact ⟨by rw [HF.out]; rfl, HB.out⟩
set_option maxHeartbeats 1000000 in
theorem hollow_any {n : Nd} (hok : OkN n) (w : World) (S : Nat → Prop) (v : Value) (hv : NdV w S v n) : Calls Try.prog 24 #[v] w fun e w' => e = .returned (.bool (decide (rlenC n < 2000) && decide (100000 < cpC n))) ∧ Below w.heap.size w w' := by
  obtain ⟨x0, A1, n1, m1, x2, x3, A4, n4, m4, rfl⟩ := hv.parts
  have hal := below_al (Below.refl w.heap.size w) (.cells #[.int .i64 x0, .slice A1 n1 m1, .int .i64 x2, .int .i64 x3, .slice A4 n4 m4] 52)
  have hbk := Blk.new w 52 #[.int .i64 x0, .slice A1 n1 m1, .int .i64 x2, .int .i64 x3, .slice A4 n4 m4]
  have HL := Lib.hid (fun W (hW : Below w.heap.size w W) => rlen_any hok W _ _ (hv.under hW))
  have HC := Lib.hid (fun W (hW : Below w.heap.size w W) => cp_any hok W _ _ (hv.under hW))
  obtain ⟨l, hl⟩ : ∃ l, rlenC n = l := ⟨_, rfl⟩
  obtain ⟨c, hc⟩ : ∃ c, cpC n = c := ⟨_, rfl⟩
  rw [hl] at HL ⊢
  rw [hc] at HC ⊢
  unfold ndV at HL HC ⊢
  have HAL := Lib.hid hal
  have HBK := Lib.hid hbk
  clear hl hc hv hal hbk
  go_enter Try.func24, Try.ntmps24
  go_wp2_with fail
  refine (HL.out _ HAL.out).mono ?_
  rintro e1 w1 ⟨rfl, hb1⟩
  have hbk := HBK.out.below hb1 (by simp)
  have HB1 := Lib.hid (below_trans HAL.out hb1)
  have y0 := hbk.cell 0
  have y1 := hbk.cell 1
  have y2 := hbk.cell 2
  have y3 := hbk.cell 3
  have y4 := hbk.cell 4
  have hlt := hbk.lt
  simp only [List.getElem?_toArray, List.getElem?_cons_succ, List.getElem?_cons_zero] at y0 y1 y2 y3 y4
  clear hbk hb1
  by_cases h2 : l < 2000
  · go_wp2_with fail
    refine (HC.out _ HB1.out).mono ?_
    rintro e2 w2 ⟨rfl, hb2⟩
    have HB2 := Lib.hid (below_trans HB1.out hb2)
    clear hb2
    go_wp2_with fail
    go_ret
    exact ⟨by simp [h2], HB2.out⟩
  · go_wp2_with fail
    go_ret
    exact ⟨by simp; omega, HB1.out⟩
end Go.Proofs.Ytjfkppbfckgckaa
namespace Go.Proofs.Ytjfkppbfckgckaa
set_option maxRecDepth 20000
open Go.RowKit Go.Rb
attribute [local irreducible] Go.wpQuiet

theorem lastOf (p : List Ins) (rs : List Int) (k0 : Nat) (hk0 : k0 ≤ rs.length) : ∃ o, IsLast p rs k0 o := by
  have key : ∀ n, ∃ o : Option Nat, match o with | none => ∀ k, k < n → ¬ Acc p rs k0 k | some k => k < n ∧ Acc p rs k0 k ∧ ∀ k', k < k' → k' < n → ¬ Acc p rs k0 k' := by
    intro n
    induction n with
    | zero => exact ⟨none, fun k h => by omega⟩
    | succ n ih =>
      by_cases h : Acc p rs k0 n
      · exact ⟨some n, by omega, h, fun k' h1 h2 => by omega⟩
      · obtain ⟨o, ho⟩ := ih
        cases o with
        | none => exact ⟨none, fun k hk => by
            rcases Nat.lt_or_ge k n with h1 | h1
            · exact ho k h1
            · obtain rfl : k = n := by omega
              exact h⟩
        | some k => exact ⟨some k, by have := ho.1; omega, ho.2.1, fun k' h1 h2 => by
            rcases Nat.lt_or_ge k' n with h3 | h3
            · exact ho.2.2 k' h1 h3
            · obtain rfl : k' = n := by omega
              exact h⟩
  have big : ∀ k, rs.length < k → ¬ Acc p rs k0 k := fun k hk ⟨i, t, hr, _⟩ => by have := reach_le hk0 hr; omega
  obtain ⟨o, ho⟩ := key (rs.length + 1)
  cases o with
  | none => exact ⟨none, fun k => by
      rcases Nat.lt_or_ge k (rs.length + 1) with h | h
      · exact ho k h
      · exact big k (by omega)⟩
  | some k => exact ⟨some k, ho.2.1, fun k' h1 => by
      rcases Nat.lt_or_ge k' (rs.length + 1) with h | h
      · exact ho.2.2 k' h1 h
      · exact big k' (by omega)⟩
theorem lastsOf (p : List Ins) (rs : List Int) : ∃ L : Nat → Option Nat, ∀ k, k ≤ rs.length → IsLast p rs k (L k) :=
  ⟨fun k => if h : k ≤ rs.length then (lastOf p rs k h).choose else none, fun k hk => by dsimp only; rw [dif_pos hk]; exact (lastOf p rs k hk).choose_spec⟩
theorem insRow_at {l : List Ins} {svs : List Value} (h : svs.length = l.length) {i : Nat} {t : Ins} {sv : Value} (ht : l[i]? = some t) (hs : svs[i]? = some sv) : ∀ j, j < 4 → (insRow l svs)[i * 4 + j]? = (insCells t sv)[j]? := by
  induction l generalizing svs i with
  | nil => simp at ht
  | cons a l ih =>
    cases svs with
    | nil => simp at hs
    | cons s0 svs =>
      intro j hj
      rw [insRow]
      have hc : (insCells a s0).length = 4 := rfl
      cases i with
      | zero =>
        simp only [List.getElem?_cons_zero, Option.some.injEq] at ht hs
        subst ht hs
        rw [Nat.zero_mul, Nat.zero_add, List.getElem?_append_left (by omega)]
      | succ i =>
        rw [List.getElem?_append_right (by omega), hc, show (i + 1) * 4 + j - 4 = i * 4 + j by omega]
        exact ih (by simpa using h) (by simpa using ht) (by simpa using hs) j hj
theorem flat_get : ∀ (l : List (Int × Int)) (i : Nat) (q : Int × Int), l[i]? = some q → (flat l)[i * 2]? = some (.int .i64 q.1) ∧ (flat l)[i * 2 + 1]? = some (.int .i64 q.2)
  | [], i, q, h => by simp at h
  | x :: l, 0, q, h => by
    obtain rfl : x = q := by simpa using h
    exact ⟨rfl, rfl⟩
  | x :: l, i + 1, q, h => by
    obtain ⟨h1, h2⟩ := flat_get l i q (by simpa using h)
    rw [show (i + 1) * 2 = i * 2 + 1 + 1 by omega]
    exact ⟨h1, h2⟩
theorem SetV.rgr {w : World} {v : Value} {s : List (Int × Int)} (h : SetV w v s) : ∃ A c, v = .slice A s.length c ∧ s.length ≤ c ∧ RgR w w.heap.size A s := by
  obtain ⟨A, c, rfl, hc, -⟩ := Own.len_ h
  refine ⟨A, c, rfl, hc, fun hne => ?_⟩
  have hpos : 0 < s.length := by cases s with | nil => exact absurd rfl hne | cons => simp
  obtain ⟨b, off, hA, hb, hcell⟩ := (Own.rd h).2 hpos
  refine ⟨b, off, hA, hb, fun i q hi => ?_⟩
  have hil := (List.getElem?_eq_some_iff.1 hi).1
  obtain ⟨h1, h2⟩ := flat_get s i q hi
  exact ⟨(hcell (i * 2) (by omega)).trans h1, by rw [Nat.add_assoc]; exact (hcell (i * 2 + 1) (by omega)).trans h2⟩
/-- A program that was made is one that is read. -/
theorem ProgO.prd {w : World} {v : Value} {ps : List Ins} (h : ProgO w v ps) : ∃ A c, v = .slice A ps.length c ∧ ps.length ≤ c ∧ PRd w w.heap.size A ps := by
  obtain ⟨svs, h1, h2, h3⟩ := h
  obtain ⟨A, c, rfl, hc, -⟩ := h2.len_
  refine ⟨A, c, rfl, hc, fun hne => ?_⟩
  have hpos : 0 < ps.length := by cases ps with | nil => exact absurd rfl hne | cons => simp
  obtain ⟨b, off, hA, hb, hcell⟩ := h2.rd.2 hpos
  refine ⟨b, off, hA, hb, fun i t hi => ?_⟩
  have hil := (List.getElem?_eq_some_iff.1 hi).1
  obtain ⟨sv, hs, hsv⟩ := h3 i t hi
  obtain ⟨A1, c1, rfl, hc1, hrg⟩ := hsv.rgr
  have key := insRow_at h1 hi hs
  exact ⟨A1, c1, hc1, hrg, (hcell (i * 4) (by omega)).trans (key 0 (by omega)), by rw [Nat.add_assoc]; exact (hcell (i * 4 + 1) (by omega)).trans (key 1 (by omega)), by rw [Nat.add_assoc]; exact (hcell (i * 4 + 2) (by omega)).trans (key 2 (by omega)),
    by rw [Nat.add_assoc]; exact (hcell (i * 4 + 3) (by omega)).trans (key 3 (by omega))⟩
def OKt (nd : Nd) : Prop := OkN nd ∧ NodeC nd ∧ (lenC nd < 2000 → (nodeP nd []).length ≤ 4000)
def smallT (nd : Nd) : Prop := rlenC nd ≤ 150 ∧ cpC nd ≤ 100000 ∧ lenC nd < 2000
/-- What made answers: of the trees for which P holds; Q: it's no pattern. -/
def RetMade (w : World) (P : Nd → Prop) (Q : Prop) (e : Ending) (w' : World) : Prop :=
  Below w.heap.size w w' ∧ ((e = .returned (.slice none 0 0) ∧ (Q ∨ ∃ nd, P nd ∧ ¬ smallT nd)) ∨ ∃ v nd, P nd ∧ smallT nd ∧ e = .returned v ∧ ProgO w' v (nodeP nd [] ++ [⟨0, [], 0, 0⟩]) ∧ ∀ k, v.ownBlock = some k → w.heap.size ≤ k)
set_option maxHeartbeats 1000000 in
theorem made_any {s : ByteArray} {w : World} {P : Nd → Prop} {Q : Prop} (hP : ∀ nd, P nd → OKt nd) (h : Calls Try.prog 22 #[.string s] w fun e w' => Below w.heap.size w w' ∧ ((∃ v nd, P nd ∧ e = .returned (.tuple #[v, .int .i64 0]) ∧ NdV w' (fun k => w.heap.size ≤ k) v nd) ∨ ((∃ k : Int, k ≠ 0 ∧ e = .returned (.tuple #[zeroNd, .int .i64 k])) ∧ Q))) :
    Calls Try.prog 9 #[.string s] w (RetMade w P Q) := by
  have H := Lib.hid h
  have HP := Lib.hid hP
  clear h hP
  go_enter Try.func9, Try.ntmps9
  go_wp2_with fail
  refine H.out.mono ?_
  rintro e1 w1 ⟨hb1, ⟨v, nd, hnd, rfl, hv⟩ | ⟨⟨k, hk, rfl⟩, hQ⟩⟩
  · have HPN := Lib.hid hnd
    have hOK := HP.out nd hnd
    obtain ⟨x0, A1, n1, m1, x2, x3, A4, n4, m4, rfl⟩ := hv.parts
    have HB1 := Lib.hid hb1
    have hal := below_al (Below.refl w1.heap.size w1) (.cells #[.int .i64 x0, .slice A1 n1 m1, .int .i64 x2, .int .i64 x3, .slice A4 n4 m4] 52)
    have HAL := Lib.hid hal
    have HL := Lib.hid (fun W (hW : Below w1.heap.size w1 W) => rlen_any hOK.1 W _ _ (hv.under hW))
    have HH := Lib.hid (fun W (hW : Below w1.heap.size w1 W) => hollow_any hOK.1 W _ _ (hv.under hW))
    have HC := Lib.hid (fun W (hW : Below w1.heap.size w1 W) => comp_any hOK.1 hOK.2.1 (hv.under hW) hOK.2.2)
    have HBK := Lib.hid (Blk.new w1 52 #[.int .i64 x0, .slice A1 n1 m1, .int .i64 x2, .int .i64 x3, .slice A4 n4 m4])
    obtain ⟨l, hl⟩ : ∃ l, rlenC nd = l := ⟨_, rfl⟩
    obtain ⟨c, hc⟩ : ∃ c, cpC nd = c := ⟨_, rfl⟩
    have HLL := Lib.hid hl
    have HCC := Lib.hid hc
    rw [hl] at HL HH
    rw [hc] at HH
    unfold ndV at HL HC HH ⊢
    clear hb1 hv hnd hOK hal hl hc
    go_wp2_with fail
    refine (HL.out _ HAL.out).mono ?_
    rintro e2 w2 ⟨rfl, hb2⟩
    have HB2 := Lib.hid (below_trans HAL.out hb2)
    have hbk := HBK.out.below hb2 (by simp)
    have HBK2 := Lib.hid hbk
    have y0 := hbk.cell 0
    have y1 := hbk.cell 1
    have y2 := hbk.cell 2
    have y3 := hbk.cell 3
    have y4 := hbk.cell 4
    have hlt := hbk.lt
    simp only [List.getElem?_toArray, List.getElem?_cons_succ, List.getElem?_cons_zero] at y0 y1 y2 y3 y4
    clear hbk hb2 HL
    by_cases h150 : 150 < l
    · have HNS : Hid (¬ smallT nd) := fun h => by have := h.1; rw [HLL.out] at this; omega
      have HB9 := Lib.hid (below_trans HB1.out HB2.out)
      go_wp2_with fail
      go_returns
      exact ⟨HB9.out, .inl ⟨rfl, .inr ⟨nd, HPN.out, HNS.out⟩⟩⟩
    have hl2 : decide (l < 2000) = true := by simp; omega
    rw [hl2, Bool.true_and] at HH
    clear hl2
    go_wp2_with fail
    refine (HH.out _ HB2.out).mono ?_
    rintro e3 w3 ⟨rfl, hb3⟩
    have HB3 := Lib.hid (below_trans HB2.out hb3)
    have hbk := HBK2.out.below hb3 hlt
    clear y0 y1 y2 y3 y4 hlt
    have y0 := hbk.cell 0
    have y1 := hbk.cell 1
    have y2 := hbk.cell 2
    have y3 := hbk.cell 3
    have y4 := hbk.cell 4
    have hlt := hbk.lt
    simp only [List.getElem?_toArray, List.getElem?_cons_succ, List.getElem?_cons_zero] at y0 y1 y2 y3 y4
    clear hbk hb3 HH
    by_cases hhol : 100000 < c
    · have HNS : Hid (¬ smallT nd) := fun h => by have := h.2.1; rw [HCC.out] at this; omega
      have HB9 := Lib.hid (below_trans HB1.out HB3.out)
      rw [decide_eq_true hhol]
      go_wp2_with fail
      go_returns
      exact ⟨HB9.out, .inl ⟨rfl, .inr ⟨nd, HPN.out, HNS.out⟩⟩⟩
    rw [decide_eq_false hhol]
    have hs3 : w1.heap.size ≤ w3.heap.size := HB3.out.size
    go_wp2_with fail
    refine (HC.out _ HB3.out).mono ?_
    rintro e4 w4 ⟨hb4, hr⟩
    have HB9 := Lib.hid (below_trans HB1.out (below_trans HB3.out hb4))
    have hs1 := HB1.out.size
    clear hb4 HC y0 y1 y2 y3 y4
    obtain ⟨hbig, rfl⟩ | ⟨hsm, p, rfl, hp, hpk⟩ := hr
    · have HNS : Hid (¬ smallT nd) := fun h => by have := h.2.2; omega
      clear hbig
      go_wp2_with fail
      go_returns
      exact ⟨HB9.out, .inl ⟨rfl, .inr ⟨nd, HPN.out, HNS.out⟩⟩⟩
    · have HS : Hid (smallT nd) := ⟨by rw [HLL.out]; omega, by rw [HCC.out]; omega, hsm⟩
      have HPO := Lib.hid hp
      have HPK : Hid (∀ k, p.ownBlock = some k → w.heap.size ≤ k) := fun k hk => by have := hpk k hk; omega
      clear hsm hp hpk
      go_wp2_with fail
      go_returns
      exact ⟨HB9.out, .inr ⟨p, nd, HPN.out, HS.out, rfl, HPO.out, HPK.out⟩⟩
  · have HB1 := Lib.hid hb1
    have HQ := Lib.hid hQ
    have hk1 : (k == 0) = false := by simpa using hk
    have hal := below_al HB1.out (.cells #[.int .i64 0, .slice none 0 0, .int .i64 0, .int .i64 0, .slice none 0 0] 52)
    have HAL := Lib.hid hal
    unfold zeroNd ndV
    clear hb1 hQ hal
    go_wp2_with fail
    go_returns
    exact ⟨HAL.out, .inl ⟨rfl, .inl HQ.out⟩⟩
end Go.Proofs.Ytjfkppbfckgckaa
namespace Go.Proofs.Ytjfkppbfckgckaa
open Go.RowKit Go.Rb
section
open Go.ChangeShapes Go.WideShapes Go.ChangeAt Go.Deep
variable {H : Type} {enc : TypeId × Value → H} {w : World} {base : Nat} {spare : Nat → Bool} {held : Bool}
theorem int_cell {n : Nat} {v : Value} {y : DataW H × List MemPlace} (h : DataW.trod enc Try.prog w base spare held n 3 [v] = some y) : ∃ z : Int, v = .int .i64 z := by
  obtain ⟨z, hz, -, hw⟩ := DataW.trod_int Try.underlying3 h
  exact ⟨z, by simpa using hz⟩
theorem lt_of_cell {ab ao : Nat} {v : Value} (f0 : w.cell? ⟨ab, ao, none⟩ = some v) : ab < w.heap.size := by
  rcases Nat.lt_or_ge ab w.heap.size with hlt | hge
  · exact hlt
  · simp [World.cell?, Array.getElem?_eq_none hge] at f0
theorem open_set {fuel : Nat} {A : Option Addr} {len cap : Nat} {x : DataW H × List MemPlace}
    (h : DataW.trod enc Try.prog w base spare held fuel 46 [.slice A len cap] = some x) :
    ∃ l : List (Int × Int), l.length = len ∧ len ≤ cap ∧ RgR w w.heap.size A l := by
  rcases slice_fields Try.underlying46 Try.underlying98 (by kernel_rfl) (by kernel_rfl) h with h0 | ⟨a, l, c, h1, hlc, -, hj⟩
  · simp at h0
    obtain ⟨rfl, rfl, rfl⟩ := h0
    exact ⟨[], rfl, Nat.le_refl _, fun h => absurd rfl h⟩
  · simp at h1
    obtain ⟨rfl, rfl, rfl⟩ := h1
    have hex : ∀ j, ∃ t : Int × Int, j < len → a = ⟨a.block, a.off, none⟩ ∧ a.block < w.heap.size ∧ w.cell? ⟨a.block, a.off + j * 2, none⟩ = some (.int .i64 t.1) ∧ w.cell? ⟨a.block, a.off + j * 2 + 1, none⟩ = some (.int .i64 t.2) := by
      intro j
      by_cases hjl : j < len
      · obtain ⟨n, hf⟩ := hj j hjl
        obtain ⟨v0, y0, e0, t0⟩ := hf 0 _ rfl
        obtain ⟨v1, y1, e1, t1⟩ := hf 1 _ rfl
        obtain ⟨z0, rfl⟩ := int_cell t0
        obtain ⟨z1, rfl⟩ := int_cell t1
        have ha' : a = ⟨a.block, a.off, none⟩ := by
          obtain ⟨n', hf'⟩ := hj 0 (by omega)
          obtain ⟨v', y', e', -⟩ := hf' 0 _ rfl
          have e2' : w.cell? (a.add 0) = some v' := e'
          rw [add_zero_] at e2'
          exact plain_of_cell e2'
        generalize hab : a.block = ab at *
        generalize hao : a.off = ao at *
        subst ha'
        have f0 : w.cell? ((⟨ab, ao, none⟩ : Addr).add (j * 2 + 0)) = some (.int .i64 z0) := e0
        have f1 : w.cell? ((⟨ab, ao, none⟩ : Addr).add (j * 2 + 1)) = some (.int .i64 z1) := e1
        rw [Rb.add_plain] at f0 f1
        exact ⟨(z0, z1), fun _ => ⟨rfl, lt_of_cell f0, by rw [← f0]; rfl, by rw [← f1]; rfl⟩⟩
      · exact ⟨(0, 0), fun h => absurd h hjl⟩
    refine ⟨(List.range len).map fun j => (hex j).choose, by simp, hlc, fun hne => ?_⟩
    have hp : 0 < len := by
      rcases Nat.eq_zero_or_pos len with h0 | h0
      · subst h0; exact absurd rfl hne
      · exact h0
    obtain ⟨ha, hb, -⟩ := (hex 0).choose_spec hp
    refine ⟨a.block, a.off, by rw [← ha], hb, fun i t hi => ?_⟩
    rw [List.getElem?_map] at hi
    by_cases hil : i < len
    · rw [List.getElem?_range hil] at hi
      obtain rfl : (hex i).choose = t := by simpa using hi
      exact ((hex i).choose_spec hil).2.2
    · rw [List.getElem?_eq_none (by simpa using hil)] at hi
      simp at hi
theorem set_cell {n : Nat} {v : Value} {y : DataW H × List MemPlace} (h : DataW.trod enc Try.prog w base spare held n 46 [v] = some y) : ∃ A l c, v = .slice A l c := by
  rcases open_slice Try.underlying46 h with h0 | ⟨a, len, cap, m, n, D, Pl, hcs, -⟩
  · exact ⟨none, 0, 0, by simpa using h0.1⟩
  · exact ⟨some a, len, cap, by simpa using hcs⟩
def InsAt (w : World) (ab ao j : Nat) (t : Ins) : Prop := ∃ A1 c1, t.set.length ≤ c1 ∧ RgR w w.heap.size A1 t.set ∧ w.cell? ⟨ab, ao + j * 4, none⟩ = some (.int .i64 t.op) ∧
  w.cell? ⟨ab, ao + j * 4 + 1, none⟩ = some (.slice A1 t.set.length c1) ∧ w.cell? ⟨ab, ao + j * 4 + 2, none⟩ = some (.int .i64 t.x) ∧ w.cell? ⟨ab, ao + j * 4 + 3, none⟩ = some (.int .i64 t.y)
theorem open_insts {fuel : Nat} {A : Option Addr} {len cap : Nat} {x : DataW H × List MemPlace}
    (h : DataW.trod enc Try.prog w base spare held fuel 23 [.slice A len cap] = some x) :
    ∃ l : List Ins, l.length = len ∧ len ≤ cap ∧ PRd w w.heap.size A l := by
  rcases slice_fields Try.underlying23 Try.underlying48 (by kernel_rfl) (by kernel_rfl) h with h0 | ⟨a, l, c, h1, hlc, -, hj⟩
  · simp at h0
    obtain ⟨rfl, rfl, rfl⟩ := h0
    exact ⟨[], rfl, Nat.le_refl _, fun h => absurd rfl h⟩
  · simp at h1
    obtain ⟨rfl, rfl, rfl⟩ := h1
    have hex : ∀ j, ∃ t : Ins, j < len → a = ⟨a.block, a.off, none⟩ ∧ a.block < w.heap.size ∧ InsAt w a.block a.off j t := by
      intro j
      by_cases hjl : j < len
      · obtain ⟨n, hf⟩ := hj j hjl
        obtain ⟨v0, y0, e0, t0⟩ := hf 0 _ rfl
        obtain ⟨v1, y1, e1, t1⟩ := hf 1 _ rfl
        obtain ⟨v2, y2, e2, t2⟩ := hf 2 _ rfl
        obtain ⟨v3, y3, e3, t3⟩ := hf 3 _ rfl
        obtain ⟨z0, rfl⟩ := int_cell t0
        obtain ⟨A1, l1, c1, rfl⟩ := set_cell t1
        obtain ⟨st, hst, hc1, hrg⟩ := open_set t1
        subst hst
        obtain ⟨z2, rfl⟩ := int_cell t2
        obtain ⟨z3, rfl⟩ := int_cell t3
        have ha' : a = ⟨a.block, a.off, none⟩ := by
          obtain ⟨n', hf'⟩ := hj 0 (by omega)
          obtain ⟨v', y', e', -⟩ := hf' 0 _ rfl
          have e2' : w.cell? (a.add 0) = some v' := e'
          rw [add_zero_] at e2'
          exact plain_of_cell e2'
        generalize hab : a.block = ab at *
        generalize hao : a.off = ao at *
        subst ha'
        have f0 : w.cell? ((⟨ab, ao, none⟩ : Addr).add (j * 4 + 0)) = some (.int .i64 z0) := e0
        have f1 : w.cell? ((⟨ab, ao, none⟩ : Addr).add (j * 4 + 1)) = some (.slice A1 st.length c1) := e1
        have f2 : w.cell? ((⟨ab, ao, none⟩ : Addr).add (j * 4 + 2)) = some (.int .i64 z2) := e2
        have f3 : w.cell? ((⟨ab, ao, none⟩ : Addr).add (j * 4 + 3)) = some (.int .i64 z3) := e3
        rw [Rb.add_plain] at f0 f1 f2 f3
        exact ⟨⟨z0, st, z2, z3⟩, fun _ => ⟨rfl, lt_of_cell f0, A1, c1, hc1, hrg, by rw [← f0]; rfl, by rw [← f1]; rfl, by rw [← f2]; rfl, by rw [← f3]; rfl⟩⟩
      · exact ⟨⟨0, [], 0, 0⟩, fun h => absurd h hjl⟩
    refine ⟨(List.range len).map fun j => (hex j).choose, by simp, hlc, fun hne => ?_⟩
    have hp : 0 < len := by
      rcases Nat.eq_zero_or_pos len with h0 | h0
      · subst h0; exact absurd rfl hne
      · exact h0
    obtain ⟨ha, hb, -⟩ := (hex 0).choose_spec hp
    refine ⟨a.block, a.off, by rw [← ha], hb, fun i t hi => ?_⟩
    rw [List.getElem?_map] at hi
    by_cases hil : i < len
    · rw [List.getElem?_range hil] at hi
      obtain rfl : (hex i).choose = t := by simpa using hi
      exact ((hex i).choose_spec hil).2.2
    · rw [List.getElem?_eq_none (by simpa using hil)] at hi
      simp at hi
end
end Go.Proofs.Ytjfkppbfckgckaa
namespace Go.Proofs.Ytjfkppbfckgckaa
set_option maxRecDepth 20000
open Go.RowKit Go.Rb
attribute [local irreducible] Go.wpQuiet

def GoodTk (n : Nat) (p : Tk × Nat) : Prop := p.2 ≤ n ∧ (p.2 ≠ 0 → okTk p.1)
theorem goodTk_ite {n : Nat} {c : Prop} [Decidable c] {p q : Tk × Nat} (hp : c → GoodTk n p) (hq : GoodTk n q) : GoodTk n (if c then p else q) := by
  split
  · exact hp ‹_›
  · exact hq
theorem tok1_bd (x : List Int) (hx : x ≠ []) : (tok1 x).2 ≤ x.length ∧ ((tok1 x).2 ≠ 0 → okTk (tok1 x).1) := by
  cases x with
  | nil => exact absurd rfl hx
  | cons a x =>
    have hb := brc_bd x
    show GoodTk (a :: x).length (tok1 (a :: x))
    have hz : GoodTk (a :: x).length (zTk, 0) := ⟨Nat.zero_le _, fun h => absurd rfl h⟩
    have h1 : ∀ t, okTk t → GoodTk (a :: x).length (t, 1) := fun t h => ⟨by simp, fun _ => h⟩
    rw [tok1]
    refine goodTk_ite (fun _ => h1 _ (by simp [okTk])) ?_
    refine goodTk_ite (fun _ => h1 _ (by simp [okTk])) ?_
    refine goodTk_ite (fun _ => h1 _ (by simp [okTk])) ?_
    refine goodTk_ite (fun _ => h1 _ (by simp [okTk])) ?_
    refine goodTk_ite (fun _ => h1 _ (by simp [okTk])) ?_
    refine goodTk_ite (fun _ => h1 _ (by simp [okTk])) ?_
    refine goodTk_ite (fun _ => h1 _ (by simp [okTk])) ?_
    refine goodTk_ite (fun _ => h1 _ (by simp [okTk])) ?_
    refine goodTk_ite (fun _ => goodTk_ite (fun _ => hz) ⟨by simp only [List.length_cons]; omega, fun _ => by simp [okTk]⟩) ?_
    refine goodTk_ite (fun _ => h1 _ (by simp [okTk])) ?_
    refine goodTk_ite (fun _ => hz) ?_
    refine goodTk_ite (fun _ => hz) ?_
    exact h1 _ (by simp [okTk])
theorem lexer1 : Lexer (fun x p => p = tok1 x) (fun x => ∀ y ∈ x, y ≠ 91 ∧ y ≠ 92) where
  call := by
    intro x A n c B W hx hok hr hB hc hn
    cases x with
    | nil => exact absurd rfl hx
    | cons a x =>
      have h := hok a (by simp)
      exact (token_any a x A n c B W hr hB hc hn h.1 h.2).mono fun e w' h => ⟨_, rfl, h⟩
  bd := by
    rintro x p hx rfl
    exact tok1_bd x hx
  drop := fun x k h y hy => h y (List.mem_of_mem_drop hy)
def tksS : List Tk := [⟨0, 0, [(97, 97)], 0, 0⟩, ⟨2, 0, [], 0, -1⟩]
def ndS : Nd := .mk 6 [] 0 (-1) [.mk 1 [(97, 97)] 0 0 []]
theorem ptsS : pts (⟨#[97, 42]⟩ : ByteArray).data.toList = some [97, 42] := by decide +kernel
theorem lexS (f : Nat) (hf : 2 ≤ f) : lexF tok1 f [97, 42] [] = some tksS := by
  obtain ⟨k, rfl⟩ : ∃ k, f = k + 2 := ⟨f - 2, by omega⟩
  cases k <;> rfl
theorem treeS : treeL (tksS.length + 2) tksS 0 0 [] [] false = some ndS := by rfl
theorem okS : OkN ndS := by
  have hc : ∀ r, OkN (.mk 1 [(r, r)] 0 0 []) := fun r => .mk _ _ _ _ _ (by omega) (by omega) (by omega) (by simp) (by simp) (by simp)
  exact .mk _ _ _ _ _ (by omega) (fun _ => ⟨rfl, by omega, by omega, by omega, .inl rfl⟩) (by omega) (by simp) (by simp) (by simpa using hc 97)
theorem nodeS : NodeC ndS := by
  have ok := okS
  have hc : ∀ r, NodeC (.mk 1 [(r, r)] 0 0 []) := fun r => node_step (.mk _ _ _ _ _ (by omega) (by omega) (by omega) (by simp) (by simp) (by simp)) (by simp) (by omega)
  exact node_step ok (by simpa using hc 97) (by omega)
theorem lenS : lenC ndS = 3 := by decide +kernel
theorem rlenS : rlenC ndS = 3 := by decide +kernel
theorem cpS : cpC ndS ≤ 100000 := by decide +kernel
def prS : List Ins := [⟨2, [], 1, 3⟩, ⟨1, [(97, 97)], 2, 0⟩, ⟨2, [], 0, 0⟩, ⟨0, [], 0, 0⟩]
theorem progS : nodeP ndS [] ++ [(⟨0, [], 0, 0⟩ : Ins)] = prS := by rfl
theorem okS_ : OKt ndS := ⟨okS, nodeS, fun _ => by
  have : (nodeP ndS [] ++ [(⟨0, [], 0, 0⟩ : Ins)]).length = 4 := by rw [progS]; rfl
  rw [List.length_append, List.length_singleton] at this
  omega⟩
theorem smallS : smallT ndS := ⟨by rw [rlenS]; decide, cpS, by rw [lenS]; decide⟩
theorem parseS (w : World) : Calls Try.prog 22 #[.string ⟨#[97, 42]⟩] w fun e w' => Below w.heap.size w w' ∧ ((∃ v nd, nd = ndS ∧ e = .returned (.tuple #[v, .int .i64 0]) ∧ NdV w' (fun k => w.heap.size ≤ k) v nd) ∨ ((∃ k : Int, k ≠ 0 ∧ e = .returned (.tuple #[zeroNd, .int .i64 k])) ∧ False)) :=
  (parse_any lexer1 ⟨#[97, 42]⟩ (fun rs h => by rw [ptsS] at h; obtain rfl := Option.some.inj h; decide) w).mono fun e w' h => by
    obtain ⟨v, h1, h2, h3⟩ := h.fn (fun x p h => h) (by decide) ptsS lexS treeS (fun l x h => (h.bd lexer1).1)
    exact ⟨h2, .inl ⟨v, _, rfl, h1, h3⟩⟩
theorem madeS (w : World) : Calls Try.prog 9 #[.string ⟨#[97, 42]⟩] w fun e w' => Below w.heap.size w w' ∧ ∃ v, e = .returned v ∧ ProgO w' v prS ∧ ∀ k, v.ownBlock = some k → w.heap.size ≤ k :=
  (made_any (P := fun nd => nd = ndS) (Q := False) (by rintro nd rfl; exact okS_) (parseS w)).mono fun e w' h => by
    obtain ⟨hb, ⟨-, h | ⟨nd, rfl, h⟩⟩ | ⟨v, nd, rfl, -, h1, h2, h3⟩⟩ := h
    · exact absurd h id
    · exact absurd smallS h
    · rw [progS] at h2
      exact ⟨hb, v, h1, h2, h3⟩
/-! ### Where it matches -/
def tS : ByteArray := ⟨#[98, 97, 97, 99]⟩
def rsS : List Int := [98, 97, 97, 99]
theorem rsS_ : rsL tS = rsS := by decide +kernel
theorem decS_ : (decT tS).length = 4 := by decide +kernel
theorem atS (k : Nat) (hk : k ≤ 4) : AtF (decT tS) k = k := by
  have : ∀ k : Fin 5, AtF (decT tS) k.1 = k.1 := by decide +kernel
  exact this ⟨k, by omega⟩
def LS (k : Nat) : Option Nat := if k = 0 then some 0 else if k ≤ 3 then some 3 else some 4
theorem stop_at {k0 e : Nat} (hk : k0 ≤ e) (he : ∀ i : Fin 4, nxt prS rsS e i.1 = []) : ∀ k', e < k' → ¬ Acc prS rsS k0 k' := by
  rintro k' hk' ⟨i, t, hr, -, -⟩
  have : k' ≤ e := reach_sub (M := fun k _ => k ≤ e) hk (fun k i j h _ => h) (fun k i j h hj => by
    rcases Nat.lt_or_eq_of_le h with h | rfl
    · exact h
    · exfalso
      rcases Nat.lt_or_ge i 4 with hi | hi
      · rw [he ⟨i, hi⟩] at hj; simp at hj
      · have : prS[i]? = none := List.getElem?_eq_none_iff.2 hi
        unfold nxt at hj
        rw [this] at hj
        simp at hj) hr
  omega
theorem eps_s {k0 k i : Nat} (j : Nat) (hj : j ∈ eps prS rsS.length k i) (h : Reach prS rsS k0 i k) : Reach prS rsS k0 j k := .eps i j k h hj
theorem nxt_s {k0 k i : Nat} (j : Nat) (hj : j ∈ nxt prS rsS k i) (h : Reach prS rsS k0 i k) : Reach prS rsS k0 j (k + 1) := .nxt i j k h hj
theorem acc_s {k0 k : Nat} (h : Reach prS rsS k0 0 k) : Acc prS rsS k0 k := by
  exact ⟨3, ⟨0, [], 0, 0⟩, eps_s 3 (by show 3 ∈ [1, 3]; simp) h, rfl, rfl⟩
theorem step_s {k0 k : Nat} (hk : rsS[k]? = some 97) (h : Reach prS rsS k0 0 k) : Reach prS rsS k0 0 (k + 1) := by
  refine eps_s (i := 2) 0 (by show 0 ∈ [0, 0]; simp) (nxt_s (i := 1) 2 ?_ (eps_s (i := 0) 1 (by show 1 ∈ [1, 3]; simp) h))
  unfold nxt
  show 2 ∈ (match rsS[k]? with | some r => if hasS [(97, 97)] r then [(2 : Int).toNat] else [] | none => [])
  rw [hk]
  decide
theorem lastS : ∀ k, k ≤ 4 → IsLast prS rsS k (LS k) := by
  intro k hk
  have h : k = 0 ∨ k = 1 ∨ k = 2 ∨ k = 3 ∨ k = 4 := by omega
  rcases h with rfl | rfl | rfl | rfl | rfl
  · exact ⟨acc_s .start, stop_at (by omega) (by decide)⟩
  · exact ⟨acc_s (step_s rfl (step_s rfl .start)), stop_at (by omega) (by decide)⟩
  · exact ⟨acc_s (step_s rfl .start), stop_at (by omega) (by decide)⟩
  · exact ⟨acc_s .start, stop_at (by omega) (by decide)⟩
  · exact ⟨acc_s .start, stop_at (by omega) (by decide)⟩
theorem allS : allP LS 4 6 0 none [] = [(0, 0), (1, 3), (4, 4)] := by decide +kernel
theorem rightS : RightI prS := by
  intro i t hi
  have hl : i < 4 := (List.getElem?_eq_some_iff.1 hi).1
  have h : i = 0 ∨ i = 1 ∨ i = 2 ∨ i = 3 := by omega
  rcases h with rfl | rfl | rfl | rfl <;> (obtain rfl := Option.some.inj hi; simp [prS])
theorem setS : ∀ (i : Nat) (t : Ins), prS[i]? = some t → t.set.length ≤ 1000 := by
  intro i t hi
  have hl : i < 4 := (List.getElem?_eq_some_iff.1 hi).1
  have h : i = 0 ∨ i = 1 ∨ i = 2 ∨ i = 3 := by omega
  rcases h with rfl | rfl | rfl | rfl <;> (obtain rfl := Option.some.inj hi; simp)
/-- match.All at the example. -/
theorem allS_any (A : Option Addr) (c : Nat) (hc : 4 ≤ c) (w : World) (hP : PRd w w.heap.size A prS) :
    Calls Try.prog 12 #[.slice A 4 c, .string tS] w fun e w' => ∃ v, e = .returned v ∧ Own w' 33 2 v 3 (hcs [(0, 0), (1, 3), (4, 4)]) ∧ Below w.heap.size w w' := by
  have h := allM_any (s := tS) (p := prS) (n := 4) rfl (by decide) (by decide) rightS setS (by decide) (L := LS) hc (by rw [decS_, rsS_]; exact lastS) w (Nat.le_refl _) hP
  refine h.mono ?_
  rintro e w' ⟨v, rfl, hv, -, hb⟩
  rw [decS_, allS] at hv
  refine ⟨v, rfl, ?_, hb⟩
  unfold HsO hitsC at hv
  have h0 := atS 0 (by omega)
  have h1 := atS 1 (by omega)
  have h3 := atS 3 (by omega)
  have h4 := atS 4 (by omega)
  simp only [List.flatMap_cons, List.flatMap_nil, h0, h1, h3, h4] at hv
  exact hv
end Go.Proofs.Ytjfkppbfckgckaa
namespace Go.Proofs.Ytjfkppbfckgckaa
set_option maxRecDepth 20000
open Go.RowKit Go.Rb
attribute [local irreducible] Go.wpQuiet

set_option maxHeartbeats 2000000 in
theorem awake_any (w : World) : Calls Try.prog 8 #[] w fun e w' => e = .returned (.bool true) ∧ Below w.heap.size w w' := by
  have HM := Lib.hid (madeS w)
  go_enter Try.func8, Try.ntmps8
  go_wp2_with fail
  refine HM.out.mono ?_
  rintro e1 w1 ⟨hb1, v1, rfl, hp1, -⟩
  obtain ⟨A1, c1, rfl, hc1, hpr⟩ := ProgO.prd hp1
  have HB1 := Lib.hid hb1
  have HA := Lib.hid (allS_any A1 c1 hc1 w1 hpr)
  clear hb1 hp1 hpr HM
  unfold tS at HA
  have e4 : prS.length = 4 := rfl
  rw [e4] at hc1 ⊢
  go_wp2_with fail
  refine HA.out.mono ?_
  rintro e2 w2 ⟨v2, rfl, ho2, hb2⟩
  obtain ⟨A2, c2, rfl, hc2, -⟩ := ho2.len_
  have HB2 := Lib.hid (below_trans HB1.out hb2)
  have HO2 := Lib.hid ho2
  have HBL := Lib.hid (below_al (Below.refl w2.heap.size w2) (.cells #[.int .i64 0, .int .i64 0, .int .i64 1, .int .i64 3, .int .i64 4, .int .i64 4] 33))
  have HS := Lib.hid (sameH_any (c1 := c2) (c2 := 3) (w2.alloc (.cells #[.int .i64 0, .int .i64 0, .int .i64 1, .int .i64 3, .int .i64 4, .int .i64 4] 33)) (l1 := [(0, 0), (1, 3), (4, 4)]) (l2 := [(0, 0), (1, 3), (4, 4)]) rfl rfl (HO2.out.rd.below HBL.out) (Own.lit w2 33 2 3 #[.int .i64 0, .int .i64 0, .int .i64 1, .int .i64 3, .int .i64 4, .int .i64 4] rfl (by decide)).rd (by decide) (by decide))
  clear hb2 ho2 HA
  go_wp2_with fail
  refine HS.out.mono ?_
  rintro e3 w3 ⟨rfl, q, rfl⟩
  have HB3 := Lib.hid (below_trans HB2.out HBL.out)
  go_wp2_with fail
  go_ret
  exact ⟨rfl, below_drewN HB3.out q⟩
end Go.Proofs.Ytjfkppbfckgckaa
namespace Go.Proofs.Ytjfkppbfckgckaa
set_option maxRecDepth 20000
open Go.RowKit Go.Rb
attribute [local irreducible] Go.wpQuiet

theorem isFrom_ex (s : ByteArray) (z : Int) : ∃ g, IsFrom s 0 z g := by
  have key : ∀ f g, g ≤ (decT s).length + 1 → (decT s).length + 1 - g ≤ f → (∀ j, j < g → (AtF (decT s) j : Int) < z) → ∃ g', IsFrom s 0 z g' := by
    intro f
    induction f with
    | zero => intro g h1 h2 h3; exact ⟨g, by omega, h1, fun j _ hj => h3 j hj, fun h => by omega⟩
    | succ f ih =>
      intro g h1 h2 h3
      by_cases hg : g ≤ (decT s).length
      · by_cases hz : z ≤ (AtF (decT s) g : Int)
        · exact ⟨g, by omega, h1, fun j _ hj => h3 j hj, fun _ => hz⟩
        · exact ih (g + 1) (by omega) (by omega) fun j hj => by
            rcases Nat.lt_or_eq_of_le (Nat.le_of_lt_succ hj) with h | rfl
            · exact h3 j h
            · omega
      · exact ⟨g, by omega, h1, fun j _ hj => h3 j hj, fun h => absurd h hg⟩
  exact key _ 0 (by omega) (Nat.le_refl _) (fun j hj => by omega)
theorem FirstIs.fn {s : ByteArray} {L : Nat → Option Nat} {z : Int} {R R' : Option (Nat × Nat)} (h : FirstIs s L z R) (h' : FirstIs s L z R') : R = R' := by
  obtain ⟨g, hg⟩ := isFrom_ex s z
  rw [h g hg, h' g hg]
theorem longV_parts (s : ByteArray) (r : Option Nat) : ∃ (a : Int) (b : Bool), longV s r = .tuple #[.int .i64 a, .bool b] := by
  cases r with
  | none => exact ⟨_, _, rfl⟩
  | some e => exact ⟨_, _, rfl⟩
theorem allP_len (L : Nat → Option Nat) (m : Nat) : ∀ (f g : Nat) (last : Option Nat) (out : List (Nat × Nat)), (allP L m f g last out).length ≤ out.length + f := by
  intro f
  induction f with
  | zero => intro g last out; rw [allP]; omega
  | succ f ih =>
    intro g last out
    rw [allP]
    split
    · omega
    · split
      · omega
      · rename_i a e _
        split
        · refine Nat.le_trans (ih _ _ _) ?_
          split
          · omega
          · simp; omega
        · refine Nat.le_trans (ih _ _ _) ?_
          simp; omega
def hpos (s : ByteArray) (l : List (Nat × Nat)) : List (Int × Int) := l.map fun h => ((AtF (decT s) h.1 : Int), (AtF (decT s) h.2 : Int))
theorem hitsC_hcs (s : ByteArray) (l : List (Nat × Nat)) : hitsC s l = hcs (hpos s l) := by
  induction l with
  | nil => rfl
  | cons a l ih =>
    unfold hitsC hcs hpos at ih ⊢
    rw [List.flatMap_cons, List.map_cons, List.flatMap_cons, ih]
/-- The document's matches are the program's. -/
theorem all_eq {p : List Ins} {s : ByteArray} {L : Nat → Option Nat} (hL : ∀ k, k ≤ (decT s).length → IsLast p (rsL s) k (L k)) (hs : s.size ≤ 60) : allR L (decT s).length 20000 0 [] = allP L (decT s).length ((decT s).length + 2) 0 none [] := by
  have hml := decT_len s
  exact all_same (fun k e hk he => by
    have := hL k hk
    rw [he] at this
    exact isLast_le hk this) ((decT s).length + 1) 0 _ _ [] (by omega) (by omega) (by omega) (by omega)
theorem same_right {p : List Ins} {s : ByteArray} {L : Nat → Option Nat} {w1 w2 : World} {v1 v2 : Value} (hL : ∀ k, k ≤ (decT s).length → IsLast p (rsL s) k (L k)) (hs : s.size ≤ 60) (h1 : HsO s w1 v1 (allP L (decT s).length ((decT s).length + 2) 0 none [])) (h2 : HsO s w2 v2 (allR L (decT s).length 20000 0 [])) (hb : Below w1.heap.size w1 w2) :
    ∃ A1 c1 A2 c2 n, v1 = .slice A1 n c1 ∧ v2 = .slice A2 n c2 ∧ n ≤ c1 ∧ n ≤ c2 ∧ Calls Try.prog 11 #[.slice A1 n c1, .slice A2 n c2] w2 fun e w' => e = .returned (.bool true) ∧ ∃ q, w' = w2.drewN q := by
  rw [all_eq hL hs] at h2
  have hml := decT_len s
  obtain ⟨l, hl⟩ : ∃ l, allP L (decT s).length ((decT s).length + 2) 0 none [] = l := ⟨_, rfl⟩
  have hlen : l.length ≤ (decT s).length + 2 := by rw [← hl]; have := allP_len L (decT s).length ((decT s).length + 2) 0 none []; simpa using this
  rw [hl] at h1 h2
  unfold HsO at h1 h2
  rw [hitsC_hcs] at h1 h2
  obtain ⟨A1, c1, rfl, hc1, -⟩ := h1.len_
  obtain ⟨A2, c2, rfl, hc2, -⟩ := h2.len_
  have e : (hpos s l).length = l.length := List.length_map ..
  refine ⟨A1, c1, A2, c2, l.length, rfl, rfl, hc1, hc2, ?_⟩
  refine (sameH_any w2 e e (h1.rd.below hb) h2.rd (by omega) (by omega)).mono ?_
  rintro e w' ⟨rfl, h⟩
  exact ⟨by simp, h⟩
set_option maxHeartbeats 4000000 in
theorem any_law {p : List Ins} {n : Nat} (hn : p.length = n) {A : Option Addr} {c : Nat} (hc : n ≤ c) (s : ByteArray) (z : Int) (w : World) (hP : PRd w w.heap.size A p) :
    Calls Try.prog 7 #[.slice A n c, .string s, .int .i64 z] w fun e w' => e = .returned (.bool true) ∧ Below w.heap.size w w' := by
  by_cases hlong : 20 < n ∨ 30 < s.size
  · clear hn hP hc
    have HAW := Lib.hid (awake_any w)
    rcases hlong with hlong | hlong
    · go_enter Try.func7, Try.ntmps7
      go_wp2_with fail
      refine HAW.out.mono ?_
      rintro e1 w1 ⟨rfl, hb1⟩
      have HB1 := Lib.hid hb1
      have HAW1 := Lib.hid (awake_any w1)
      clear hb1
      go_wp2_with fail
      refine HAW1.out.mono ?_
      rintro e2 w2 ⟨rfl, hb2⟩
      have HB2 := Lib.hid hb2
      clear hb2
      go_wp2_with fail
      go_ret
      exact ⟨rfl, below_trans HB1.out HB2.out⟩
    · by_cases hn20 : 20 < n
      · go_enter Try.func7, Try.ntmps7
        go_wp2_with fail
        refine HAW.out.mono ?_
        rintro e1 w1 ⟨rfl, hb1⟩
        have HB1 := Lib.hid hb1
        have HAW1 := Lib.hid (awake_any w1)
        clear hb1
        go_wp2_with fail
        refine HAW1.out.mono ?_
        rintro e2 w2 ⟨rfl, hb2⟩
        have HB2 := Lib.hid hb2
        clear hb2
        go_wp2_with fail
        go_ret
        exact ⟨rfl, below_trans HB1.out HB2.out⟩
      · go_enter Try.func7, Try.ntmps7
        go_wp2_with fail
        refine HAW.out.mono ?_
        rintro e1 w1 ⟨rfl, hb1⟩
        have HB1 := Lib.hid hb1
        have HAW1 := Lib.hid (awake_any w1)
        clear hb1
        go_wp2_with fail
        refine HAW1.out.mono ?_
        rintro e2 w2 ⟨rfl, hb2⟩
        have HB2 := Lib.hid hb2
        clear hb2
        go_wp2_with fail
        go_ret
        exact ⟨rfl, below_trans HB1.out HB2.out⟩
  have hn20 : n ≤ 20 := by omega
  have hs30 : s.size ≤ 30 := by omega
  clear hlong
  have HAW := Lib.hid (awake_any w)
  have HP := Lib.hid hP
  have HN := Lib.hid hn
  clear hP hn
  go_enter Try.func7, Try.ntmps7
  go_wp2_with fail
  refine HAW.out.mono ?_
  rintro e1 w1 ⟨rfl, hb1⟩
  have HB1 := Lib.hid hb1
  clear hb1 HAW
  go_wp2_with fail
  go_loopw [7] (fun iv wr => ∃ i q : Nat, iv = .int .i64 (i : Int) ∧ i ≤ n ∧ wr = w1.drewN q ∧ Hid (∀ j t, j < i → p[j]? = some t → t.set.length ≤ 10)) (fun iv _ => n - (intOf iv).toNat)
  case atStart => exact ⟨0, 0, rfl, by omega, rfl, fun j t hj => by omega⟩
  case round =>
    obtain ⟨i, q, rfl, hin, rfl, HI⟩ := hrel
    by_cases hlt : i < n
    · have hcl : i < p.length := by rw [HN.out]; exact hlt
      obtain ⟨t, hi⟩ : ∃ t, p[i]? = some t := ⟨_, List.getElem?_eq_getElem hcl⟩
      have hP1 : PRd (w1.drewN q) w.heap.size A p := HP.out.below (below_drewN HB1.out q)
      obtain ⟨b, off, rfl, hb, hat⟩ := hP1 (fun e => by rw [e] at hcl; simp at hcl)
      obtain ⟨A1, c1, hc1, -, c0, c1', c2, c3⟩ := hat i t hi
      obtain ⟨ls, hls⟩ : ∃ ls, t.set.length = ls := ⟨_, rfl⟩
      have HLS := Lib.hid hls
      have hHI := Lib.hid hi
      have hs1 := HB1.out.size
      have hb9 : b < (w1.drewN q).heap.size := by show b < w1.heap.size; omega
      rw [hls] at c1' hc1
      clear hat hcl hP1 hls hi
      by_cases h10 : 10 < ls
      · go_wp2_with fail
        go_ret
        exact ⟨rfl, below_drewN HB1.out _⟩
      · have HI2 : Hid (∀ j t, j < i + 1 → p[j]? = some t → t.set.length ≤ 10) := fun j t' hj ht' => by
          rcases Nat.lt_or_eq_of_le (Nat.le_of_lt_succ hj) with h | rfl
          · exact HI.out j t' h ht'
          · rw [hHI.out] at ht'
            obtain rfl := Option.some.inj ht'
            rw [HLS.out]; omega
        clear HI
        go_wp2_with fail
        go_roundw
        case rel => exact ⟨i + 1, q, by go_num, by omega, rfl, HI2⟩
        case measure => simp [intOf] <;> omega
    · have HSET : Hid (∀ (j : Nat) (t : Ins), p[j]? = some t → t.set.length ≤ 1000) := fun j t hj => by
        have hl := (List.getElem?_eq_some_iff.1 hj).1
        have := HI.out j t (by rw [HN.out] at hl; omega) hj
        omega
      have HB2 := Lib.hid (below_drewN HB1.out q)
      clear HI
      generalize w1.drewN q = w2 at HB2 ⊢
      have HP2 : Hid (PRd w2 w.heap.size A p) := HP.out.below HB2.out
      have hs2 := HB2.out.size
      by_cases hr : rightP n (p.map toIn) = true
      · obtain ⟨hok, hn0⟩ := (rightP_iff HN.out).1 hr
        have HRT : Hid (rightP n (p.map toIn) = true) := hr
        have HOK := Lib.hid hok
        obtain ⟨L, hL⟩ := lastsOf p (rsL s)
        have HLL : Hid (∀ k, k ≤ (decT s).length → IsLast p (rsL s) k (L k)) := fun k hk => hL k (by rw [rsL, List.length_map]; exact hk)
        have HAM := Lib.hid (allM_any HN.out hn0 (by omega) HOK.out HSET.out (by omega : s.size ≤ 60) hc HLL.out w2 hs2 HP2.out)
        clear hr hok hL
        go_wp2_with fail
        refine HAM.out.mono ?_
        rintro e3 w3 ⟨v3, rfl, hh3, -, hb3⟩
        have HB3 := Lib.hid (below_trans HB2.out hb3)
        have HH3 := Lib.hid hh3
        obtain ⟨A3, c3, hv3, hc3, -⟩ := Own.len_ hh3
        obtain ⟨n3, hn3⟩ : ∃ n3, (allP L (decT s).length ((decT s).length + 2) 0 none []).length = n3 := ⟨_, rfl⟩
        rw [hn3] at hv3 hc3
        subst hv3
        have HP3 : Hid (PRd w3 w.heap.size A p) := HP.out.below HB3.out
        have hs3 := HB3.out.size
        have HLM := Lib.hid (longM_any HN.out hn0 (by omega) HOK.out HSET.out (by omega : s.size ≤ 60) hc HLL.out z w3 hs3 HP3.out)
        clear hb3 HAM hh3 hn3
        go_wp2_with fail
        refine HLM.out.mono ?_
        rintro e4 w4 ⟨⟨r, hr4, rfl⟩, hb4⟩
        obtain ⟨r1, r2, hrv⟩ := longV_parts s r
        have HR4 := Lib.hid hr4
        have HRV := Lib.hid hrv
        rw [hrv]
        have HB4 := Lib.hid (below_trans HB3.out hb4)
        have HB34 := Lib.hid hb4
        have HP4 : Hid (PRd w4 w.heap.size A p) := HP.out.below HB4.out
        have hs4 := HB4.out.size
        have HFM := Lib.hid (firstM_any HN.out hn0 (by omega) HOK.out HSET.out (by omega : s.size ≤ 60) hc HLL.out z w4 hs4 HP4.out)
        clear hb4 HLM hr4 hrv
        go_wp2_with fail
        refine HFM.out.mono ?_
        rintro e5 w5 ⟨⟨R, hR5, rfl⟩, hb5⟩
        obtain ⟨xa, xb, hab⟩ := hitV_agg s R
        obtain ⟨bb, hbb⟩ : ∃ bb, R.isSome = bb := ⟨_, rfl⟩
        rw [hab, hbb]
        have HR5 := Lib.hid hR5
        have HAB := Lib.hid hab
        have HBB := Lib.hid hbb
        have HB5 := Lib.hid (below_trans HB4.out hb5)
        have HB35 := Lib.hid (below_trans HB34.out hb5)
        clear hb5 HFM hR5 hab hbb
        go_wp2_with fail
        have HBK := Lib.hid (Blk.new w5 33 #[.int .i64 xa, .int .i64 xb])
        have HB6 := Lib.hid (below_al HB5.out (.cells #[.int .i64 xa, .int .i64 xb] 33))
        have HB36 := Lib.hid (below_al HB35.out (.cells #[.int .i64 xa, .int .i64 xb] 33))
        have HP6 : Hid (PRd (w5.alloc (.cells #[.int .i64 xa, .int .i64 xb] 33)) w.heap.size A p) := HP.out.below HB6.out
        have hs5 := HB5.out.size
        have HRR := Lib.hid (refRight_any (p.map toIn) A n c (w5.alloc (.cells #[.int .i64 xa, .int .i64 xb] 33)) (HP6.out.ins HB6.out.size) (by rw [List.length_map]; exact HN.out) (by omega) hc)
        rw [HRT.out] at HRR
        refine HRR.out.mono ?_
        rintro e6 w6 ⟨rfl, hb6⟩
        have HB7 := Lib.hid (below_trans HB6.out hb6)
        have HB37 := Lib.hid (below_trans HB36.out hb6)
        have HBK7 := Lib.hid (HBK.out.below hb6 (by simp))
        have HP7 : Hid (PRd w6 w.heap.size A p) := HP.out.below HB7.out
        have hs6 := HB7.out.size
        have HRL := Lib.hid (refLong_any HN.out hn0 (by omega) HOK.out HSET.out (by omega : s.size ≤ 60) hc HLL.out z w6 hs6 HP7.out)
        clear hb6 HRR
        go_wp2_with fail
        refine HRL.out.mono ?_
        rintro e7 w7 ⟨⟨r', hr7, rfl⟩, hb7⟩
        obtain rfl := hr7.fn HR4.out
        rw [HRV.out]
        have HB8 := Lib.hid (below_trans HB7.out hb7)
        have HB38 := Lib.hid (below_trans HB37.out hb7)
        have HBK8 := Lib.hid (HBK7.out.below hb7 HBK7.out.lt)
        have HP8 : Hid (PRd w7 w.heap.size A p) := HP.out.below HB8.out
        have hs7 := HB8.out.size
        have HRF := Lib.hid (refFirst_any HN.out hn0 (by omega) HOK.out HSET.out (by omega : s.size ≤ 60) hc HLL.out z w7 hs7 HP8.out)
        clear hb7 HRL hr7
        go_wp2_with fail
        refine HRF.out.mono ?_
        rintro e8 w8 ⟨⟨R', hR8, -, rfl⟩, hb8⟩
        obtain rfl := FirstIs.fn hR8 HR5.out
        rw [HAB.out, HBB.out]
        have HB9 := Lib.hid (below_trans HB8.out hb8)
        have HB39 := Lib.hid (below_trans HB38.out hb8)
        have HBK9 := Lib.hid (HBK8.out.below hb8 HBK8.out.lt)
        clear hb8 HRF hR8
        have HBKb := Lib.hid (Blk.new w8 33 #[.int .i64 xa, .int .i64 xb])
        have HBKa := Lib.hid (HBK9.out.below (below_al (Below.refl w8.heap.size w8) (.cells #[.int .i64 xa, .int .i64 xb] 33)) HBK9.out.lt)
        have HBa := Lib.hid (below_al HB9.out (.cells #[.int .i64 xa, .int .i64 xb] 33))
        have HB3a := Lib.hid (below_al HB39.out (.cells #[.int .i64 xa, .int .i64 xb] 33))
        have HPa : Hid (PRd (w8.alloc (.cells #[.int .i64 xa, .int .i64 xb] 33)) w.heap.size A p) := HP.out.below HBa.out
        have hs8 := HB9.out.size
        have HRA := Lib.hid (refAll_any HN.out hn0 (by omega) HOK.out HSET.out (by omega : s.size ≤ 60) hc HLL.out (w8.alloc (.cells #[.int .i64 xa, .int .i64 xb] 33)) HBa.out.size HPa.out)
        go_wp2_with fail
        refine HRA.out.mono ?_
        rintro e9 w9 ⟨v9, rfl, hh9, -, hb9⟩
        have HBA := Lib.hid (below_trans HBa.out hb9)
        obtain ⟨A1, c1, A2, c2, nn, hv1, rfl, hc1, hc2, hsame⟩ := same_right HLL.out (by omega) HH3.out hh9 (below_trans HB3a.out hb9)
        injection hv1 with hv1 hv2 hv3
        subst hv1 hv2 hv3
        have HSM := Lib.hid hsame
        have hbka := HBKa.out.below hb9 HBKa.out.lt
        have hbkb := HBKb.out.below hb9 (by simp)
        have HX1 := Lib.hid hbka
        have HX2 := Lib.hid hbkb
        clear hb9 HRA hh9 hsame hbka hbkb
        go_wp2_with fail
        refine HSM.out.mono ?_
        rintro e10 w10 ⟨rfl, q2, rfl⟩
        have hx1 := HX1.out.drewN q2
        have hx2 := HX2.out.drewN q2
        have HBB := Lib.hid (below_drewN HBA.out q2)
        generalize w9.drewN q2 = wA at hx1 hx2 HBB ⊢
        have y0 := hx1.cell 0
        have y1 := hx1.cell 1
        have hlt := hx1.lt
        have z0 := hx2.cell 0
        have z1 := hx2.cell 1
        have hlz := hx2.lt
        simp only [List.getElem?_toArray, List.getElem?_cons_succ, List.getElem?_cons_zero] at y0 y1 z0 z1
        clear hx1 hx2 HSM
        go_wp2_with fail
        go_ret
        exact ⟨by simp, HBB.out⟩
      · have hr' : rightP n (p.map toIn) = false := by simpa using hr
        have HRF := Lib.hid hr'
        have HNA := Lib.hid (noAll HN.out (by omega) HRF.out s hc w2 hs2 HP2.out)
        clear hr hr'
        go_wp2_with fail
        refine HNA.out.mono ?_
        rintro e3 w3 ⟨rfl, hb3⟩
        have HB3 := Lib.hid (below_trans HB2.out hb3)
        have HP3 : Hid (PRd w3 w.heap.size A p) := HP.out.below HB3.out
        have hs3 := HB3.out.size
        have HNL := Lib.hid (noLong HN.out (by omega) HRF.out s z hc w3 hs3 HP3.out)
        clear hb3 HNA
        go_wp2_with fail
        refine HNL.out.mono ?_
        rintro e4 w4 ⟨rfl, hb4⟩
        have HB4 := Lib.hid (below_trans HB3.out hb4)
        have HP4 : Hid (PRd w4 w.heap.size A p) := HP.out.below HB4.out
        have hs4 := HB4.out.size
        have HNF := Lib.hid (noFirst HN.out (by omega) HRF.out s z hc w4 hs4 HP4.out)
        clear hb4 HNL
        unfold hitV at HNF
        go_wp2_with fail
        refine HNF.out.mono ?_
        rintro e5 w5 ⟨rfl, hb5⟩
        have HB5 := Lib.hid (below_trans HB4.out hb5)
        clear hb5 HNF
        go_wp2_with fail
        have HBK := Lib.hid (Blk.new w5 33 #[.int .i64 0, .int .i64 0])
        have HB6 := Lib.hid (below_al HB5.out (.cells #[.int .i64 0, .int .i64 0] 33))
        have HAL := Lib.hid (below_al (Below.refl w5.heap.size w5) (.cells #[.int .i64 0, .int .i64 0] 33))
        have HP6 : Hid (PRd (w5.alloc (.cells #[.int .i64 0, .int .i64 0] 33)) w.heap.size A p) := HP.out.below HB6.out
        have hs5 := HB5.out.size
        have HRR := Lib.hid (refRight_any (p.map toIn) A n c (w5.alloc (.cells #[.int .i64 0, .int .i64 0] 33)) (HP6.out.ins HB6.out.size) (by rw [List.length_map]; exact HN.out) (by omega) hc)
        rw [HRF.out] at HRR
        refine HRR.out.mono ?_
        rintro e6 w6 ⟨rfl, hb6⟩
        have HB7 := Lib.hid (below_trans HB6.out hb6)
        have hbk := HBK.out.below hb6 (by simp)
        have y0 := hbk.cell 0
        have y1 := hbk.cell 1
        have hlt := hbk.lt
        simp only [List.getElem?_toArray, List.getElem?_cons_succ, List.getElem?_cons_zero] at y0 y1
        clear hb6 HRR hbk
        go_wp2_with fail
        go_ret
        exact ⟨rfl, HB7.out⟩
end Go.Proofs.Ytjfkppbfckgckaa
