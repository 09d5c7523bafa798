/-
  The contracts of order.Encode and of reedbedref02.Encode; no condition beyond those that each theorem states.
-/
import Derived.Test.YtoagjhhdijebmaaOrd4
import Derived.Test.YtoagjhhdijebmaaRegion
namespace Go.Proofs.Ytoagjhhdijebmaa
open Go.RowKit Go.Rb
attribute [local irreducible] Go.wpQuiet

def enc1 (k r : Int) : List UInt8 := if k = 0 ∨ k = 1 then putL r else octsL k (unitsL r)
def encL (k : Int) (rs : List Int) : List UInt8 := rs.flatMap (enc1 k)
theorem putL_bd4 (r : Int) : (putL r).length ≤ 4 := by
  unfold putL
  generalize (if isB r = true then r else 65533) = q
  unfold putV
  split
  · simp
  · split
    · simp [put2]
    · split
      · simp [put3]
      · simp [put4]
theorem unitsL_bd (r : Int) : (unitsL r).length ≤ 2 := by
  unfold unitsL
  generalize (if isB r = true then r else 65533) = q
  unfold unitsV
  split
  · simp
  · simp
theorem octU_bd (k r : Int) : (octsL k (unitsL r)).length ≤ 4 := by
  cases h : twoP k with
  | true => have := unitsL_bd r; rw [octsL_len k h]; omega
  | false => rw [octsL_none k h]; simp
theorem enc1_bd (k r : Int) : (enc1 k r).length ≤ 4 := by
  unfold enc1
  split
  · exact putL_bd4 r
  · exact octU_bd k r
theorem encL_bd (k : Int) : ∀ rs : List Int, (encL k rs).length ≤ 4 * rs.length
  | [] => by simp [encL]
  | r :: rs => by
    have h1 := encL_bd k rs
    have h2 := enc1_bd k r
    unfold encL at h1 ⊢
    rw [List.flatMap_cons, List.length_append, List.length_cons]; omega
theorem enc_succ (k : Int) (rs : List Int) (i : Nat) (h : i < rs.length) : encL k (rs.take (i + 1)) = encL k (rs.take i) ++ enc1 k rs[i] := by
  rw [List.take_add_one, List.getElem?_eq_getElem h]
  unfold encL
  rw [List.flatMap_append]
  simp
theorem enc_succ_p (k : Int) (rs : List Int) (i : Nat) (h : i < rs.length) (hk : k = 0 ∨ k = 1 := by decide) : encL k (rs.take (i + 1)) = encL k (rs.take i) ++ putL rs[i] := by
  rw [enc_succ k rs i h]
  unfold enc1
  rw [if_pos hk]
theorem enc_succ_o (k : Int) (rs : List Int) (i : Nat) (h : i < rs.length) (h0 : ¬ k = 0) (h1 : ¬ k = 1) : encL k (rs.take (i + 1)) = encL k (rs.take i) ++ octsL k (unitsL rs[i]) := by
  rw [enc_succ k rs i h]
  unfold enc1
  rw [if_neg (by rintro (h | h); exact h0 h; exact h1 h)]
theorem rdI' {w : World} {e : TypeId} {n : Nat} {v : Value} {xs : List Value} (h : Own w e 1 v n xs) : ∃ A cap, v = .slice A n cap ∧ Rd w w.heap.size 1 A n xs ∧ n ≤ cap := Own.rd' h

set_option maxHeartbeats 4000000 in
theorem renc_0 (rs : List Int) (A : Option Addr) (n c B : Nat) (w : World) (hr : Rd w B 1 A n (rs.map iV)) (hn : n ≤ 1000) (hB : B ≤ w.heap.size) :
    Calls Try.prog 16 #[.int .i64 0, .slice A n c] w fun e w' => e = .returned (strV (encL 0 rs)) ∧ Below w.heap.size w w' := by
  have HL := Lib.hid (show rs.length = n by simpa using hr.1)
  have HR := Lib.hid hr
  clear hr
  go_enter Try.func16, Try.ntmps16
  go_wp2_with fail
  go_loopw [5, 6] (fun sv iv wr => ∃ i : Nat, i ≤ n ∧ iv = .int .i64 i ∧ sv = strV (encL 0 (rs.take i)) ∧ Below w.heap.size w wr) (fun _ iv _ => n - (intOf iv).toNat)
  case atStart => exact ⟨0, by omega, rfl, rfl, Below.refl _ _⟩
  case round =>
    obtain ⟨i, hi, rfl, rfl, hbw⟩ := hrel
    have HB := Lib.hid hbw
    by_cases hlt : i < n
    · have i1 : (i : Int) < (n : Int) := by omega
      obtain ⟨pa, po, rfl, -, hcell⟩ := ((HR.out.more hB).below HB.out).2 (by omega)
      have x0 := hcell i (by omega)
      have hil : i < rs.length := by rw [HL.out]; exact hlt
      rw [List.getElem?_map, List.getElem?_eq_getElem hil] at x0
      have x1 : wr.cell? ⟨pa, po + i, none⟩ = some (.int .i64 rs[i]) := x0
      have HN : Hid (encL 0 (rs.take (i + 1)) = encL 0 (rs.take i) ++ putL rs[i]) := enc_succ_p 0 rs i hil
      have hbd := encL_bd 0 (rs.take i)
      rw [List.length_take] at hbd
      have hbe : (putL rs[i]).length ≤ 4 := by exact putL_bd4 _
      generalize rs[i] = r at *
      clear hcell x0 hbw
      generalize encL 0 (rs.take i) = xs at *
      have hz1 : (⟨xs.toArray⟩ : ByteArray).size ≤ 4000 := by simp only [ByteArray.size, List.size_toArray]; omega
      have hz2 : (⟨(putL r).toArray⟩ : ByteArray).size ≤ 4 := by simp only [ByteArray.size, List.size_toArray]; omega
      have HN2 : Hid (strV (encL 0 (rs.take (i + 1))) = .string ((⟨xs.toArray⟩ : ByteArray) ++ ⟨(putL r).toArray⟩)) := (by rw [HN.out, cat_]; rfl : strV (encL 0 (rs.take (i + 1))) = .string ((⟨xs.toArray⟩ : ByteArray) ++ ⟨(putL r).toArray⟩))
      have HPT : Hid (∀ W, Calls Try.prog 15 #[.int .i64 r] W fun e w' => e = .returned (.string ⟨(putL r).toArray⟩) ∧ Below W.heap.size W w') := fun W => refPut_any r W
      unfold strV
      generalize (⟨xs.toArray⟩ : ByteArray) = acc at *
      generalize (⟨(putL r).toArray⟩ : ByteArray) = tb at *
      go_wp2_with (first
        | (go_at_call 15; refine (HPT.out _).mono ?_; rintro e5 w5 ⟨rfl, hb5⟩; have HB5 := Lib.hid (below_trans HB.out hb5); clear hb5))
      go_roundw
      case rel => exact ⟨i + 1, by omega, by go_num, HN2.out.symm, HB5.out⟩
      case measure => simp [intOf]; omega
    · have e : rs.take i = rs := List.take_of_length_le (by rw [HL.out]; omega)
      have i1 : ¬ (i : Int) < (n : Int) := by omega
      rw [e]
      clear e hbw
      go_wp2_with fail
      go_ret
      exact ⟨rfl, HB.out⟩

set_option maxHeartbeats 4000000 in
theorem renc_1 (rs : List Int) (A : Option Addr) (n c B : Nat) (w : World) (hr : Rd w B 1 A n (rs.map iV)) (hn : n ≤ 1000) (hB : B ≤ w.heap.size) :
    Calls Try.prog 16 #[.int .i64 1, .slice A n c] w fun e w' => e = .returned (strV (encL 1 rs)) ∧ Below w.heap.size w w' := by
  have HL := Lib.hid (show rs.length = n by simpa using hr.1)
  have HR := Lib.hid hr
  clear hr
  go_enter Try.func16, Try.ntmps16
  go_wp2_with fail
  go_loopw [5, 6] (fun sv iv wr => ∃ i : Nat, i ≤ n ∧ iv = .int .i64 i ∧ sv = strV (encL 1 (rs.take i)) ∧ Below w.heap.size w wr) (fun _ iv _ => n - (intOf iv).toNat)
  case atStart => exact ⟨0, by omega, rfl, rfl, Below.refl _ _⟩
  case round =>
    obtain ⟨i, hi, rfl, rfl, hbw⟩ := hrel
    have HB := Lib.hid hbw
    by_cases hlt : i < n
    · have i1 : (i : Int) < (n : Int) := by omega
      obtain ⟨pa, po, rfl, -, hcell⟩ := ((HR.out.more hB).below HB.out).2 (by omega)
      have x0 := hcell i (by omega)
      have hil : i < rs.length := by rw [HL.out]; exact hlt
      rw [List.getElem?_map, List.getElem?_eq_getElem hil] at x0
      have x1 : wr.cell? ⟨pa, po + i, none⟩ = some (.int .i64 rs[i]) := x0
      have HN : Hid (encL 1 (rs.take (i + 1)) = encL 1 (rs.take i) ++ putL rs[i]) := enc_succ_p 1 rs i hil
      have hbd := encL_bd 1 (rs.take i)
      rw [List.length_take] at hbd
      have hbe : (putL rs[i]).length ≤ 4 := by exact putL_bd4 _
      generalize rs[i] = r at *
      clear hcell x0 hbw
      generalize encL 1 (rs.take i) = xs at *
      have hz1 : (⟨xs.toArray⟩ : ByteArray).size ≤ 4000 := by simp only [ByteArray.size, List.size_toArray]; omega
      have hz2 : (⟨(putL r).toArray⟩ : ByteArray).size ≤ 4 := by simp only [ByteArray.size, List.size_toArray]; omega
      have HN2 : Hid (strV (encL 1 (rs.take (i + 1))) = .string ((⟨xs.toArray⟩ : ByteArray) ++ ⟨(putL r).toArray⟩)) := (by rw [HN.out, cat_]; rfl : strV (encL 1 (rs.take (i + 1))) = .string ((⟨xs.toArray⟩ : ByteArray) ++ ⟨(putL r).toArray⟩))
      have HPT : Hid (∀ W, Calls Try.prog 15 #[.int .i64 r] W fun e w' => e = .returned (.string ⟨(putL r).toArray⟩) ∧ Below W.heap.size W w') := fun W => refPut_any r W
      unfold strV
      generalize (⟨xs.toArray⟩ : ByteArray) = acc at *
      generalize (⟨(putL r).toArray⟩ : ByteArray) = tb at *
      go_wp2_with (first
        | (go_at_call 15; refine (HPT.out _).mono ?_; rintro e5 w5 ⟨rfl, hb5⟩; have HB5 := Lib.hid (below_trans HB.out hb5); clear hb5))
      go_roundw
      case rel => exact ⟨i + 1, by omega, by go_num, HN2.out.symm, HB5.out⟩
      case measure => simp [intOf]; omega
    · have e : rs.take i = rs := List.take_of_length_le (by rw [HL.out]; omega)
      have i1 : ¬ (i : Int) < (n : Int) := by omega
      rw [e]
      clear e hbw
      go_wp2_with fail
      go_ret
      exact ⟨rfl, HB.out⟩

set_option maxHeartbeats 4000000 in
theorem renc_o (k : Int) (h0 : ¬ k = 0) (h1 : ¬ k = 1) (rs : List Int) (A : Option Addr) (n c B : Nat) (w : World) (hr : Rd w B 1 A n (rs.map iV)) (hn : n ≤ 1000) (hB : B ≤ w.heap.size) :
    Calls Try.prog 16 #[.int .i64 k, .slice A n c] w fun e w' => e = .returned (strV (encL k rs)) ∧ Below w.heap.size w w' := by
  have q0 : (k == 0) = false := by rw [beq_eq_false_iff_ne]; exact h0
  have q1 : (k == 1) = false := by rw [beq_eq_false_iff_ne]; exact h1
  have HL := Lib.hid (show rs.length = n by simpa using hr.1)
  have HR := Lib.hid hr
  clear hr
  go_enter Try.func16, Try.ntmps16
  go_wp2_with fail
  go_loopw [5, 6] (fun sv iv wr => ∃ i : Nat, i ≤ n ∧ iv = .int .i64 i ∧ sv = strV (encL k (rs.take i)) ∧ Below w.heap.size w wr) (fun _ iv _ => n - (intOf iv).toNat)
  case atStart => exact ⟨0, by omega, rfl, rfl, Below.refl _ _⟩
  case round =>
    obtain ⟨i, hi, rfl, rfl, hbw⟩ := hrel
    have HB := Lib.hid hbw
    by_cases hlt : i < n
    · have i1 : (i : Int) < (n : Int) := by omega
      obtain ⟨pa, po, rfl, -, hcell⟩ := ((HR.out.more hB).below HB.out).2 (by omega)
      have x0 := hcell i (by omega)
      have hil : i < rs.length := by rw [HL.out]; exact hlt
      rw [List.getElem?_map, List.getElem?_eq_getElem hil] at x0
      have x1 : wr.cell? ⟨pa, po + i, none⟩ = some (.int .i64 rs[i]) := x0
      have HN : Hid (encL k (rs.take (i + 1)) = encL k (rs.take i) ++ octsL k (unitsL rs[i])) := enc_succ_o k rs i hil h0 h1
      have hbd := encL_bd k (rs.take i)
      rw [List.length_take] at hbd
      have hbe : (octsL k (unitsL rs[i])).length ≤ 4 := by exact octU_bd _ _
      generalize rs[i] = r at *
      clear hcell x0 hbw
      generalize encL k (rs.take i) = xs at *
      have hz1 : (⟨xs.toArray⟩ : ByteArray).size ≤ 4000 := by simp only [ByteArray.size, List.size_toArray]; omega
      have hz2 : (⟨(octsL k (unitsL r)).toArray⟩ : ByteArray).size ≤ 4 := by simp only [ByteArray.size, List.size_toArray]; omega
      have HN2 : Hid (strV (encL k (rs.take (i + 1))) = .string ((⟨xs.toArray⟩ : ByteArray) ++ ⟨(octsL k (unitsL r)).toArray⟩)) := (by rw [HN.out, cat_]; rfl : strV (encL k (rs.take (i + 1))) = .string ((⟨xs.toArray⟩ : ByteArray) ++ ⟨(octsL k (unitsL r)).toArray⟩))
      have HPT : Hid (∀ W A4 c4, Rd W W.heap.size 1 A4 (unitsL r).length ((unitsL r).map iV) → Calls Try.prog 24 #[.int .i64 k, .slice A4 (unitsL r).length c4] W fun e w' => e = .returned (.string ⟨(octsL k (unitsL r)).toArray⟩) ∧ Below W.heap.size W w') := fun W A4 c4 h4 => rOctets_any k (unitsL r) A4 (unitsL r).length c4 _ W h4 (by have := unitsL_bd r; omega) (Nat.le_refl _)
      unfold strV
      generalize (⟨xs.toArray⟩ : ByteArray) = acc at *
      generalize (⟨(octsL k (unitsL r)).toArray⟩ : ByteArray) = tb at *
      go_wp2_with (first
        | (go_at_call 25; refine (refUnits_any r _).mono ?_; rintro e4 w4 ⟨v4, rfl, hn4⟩; obtain ⟨A4, c4, rfl, hr4, -⟩ := rdI' hn4.1; have HB4 := Lib.hid (below_trans HB.out hn4.2.1); have HR4 := Lib.hid hr4; clear hn4 hr4)
        | (go_at_call 24; refine (HPT.out _ A4 c4 HR4.out).mono ?_; rintro e5 w5 ⟨rfl, hb5⟩; have HB5 := Lib.hid (below_trans HB4.out hb5); clear hb5))
      go_roundw
      case rel => exact ⟨i + 1, by omega, by go_num, HN2.out.symm, HB5.out⟩
      case measure => simp [intOf]; omega
    · have e : rs.take i = rs := List.take_of_length_le (by rw [HL.out]; omega)
      have i1 : ¬ (i : Int) < (n : Int) := by omega
      rw [e]
      clear e hbw
      go_wp2_with fail
      go_ret
      exact ⟨rfl, HB.out⟩

theorem rencode_any (k : Int) (rs : List Int) (A : Option Addr) (n c B : Nat) (w : World) (hr : Rd w B 1 A n (rs.map iV)) (hn : n ≤ 1000) (hB : B ≤ w.heap.size) :
    Calls Try.prog 16 #[.int .i64 k, .slice A n c] w fun e w' => e = .returned (strV (encL k rs)) ∧ Below w.heap.size w w' := by
  by_cases h0 : k = 0
  · subst h0; exact renc_0 rs A n c B w hr hn hB
  by_cases h1 : k = 1
  · subst h1; exact renc_1 rs A n c B w hr hn hB
  exact renc_o k h0 h1 rs A n c B w hr hn hB
end Go.Proofs.Ytoagjhhdijebmaa
