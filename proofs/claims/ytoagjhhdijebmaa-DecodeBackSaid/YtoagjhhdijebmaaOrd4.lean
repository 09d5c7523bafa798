/-
  The contract of reedbedref02's function Octets; no condition beyond those that each theorem states.
-/
import Derived.Test.YtoagjhhdijebmaaOrd3
namespace Go.Proofs.Ytoagjhhdijebmaa
open Go.RowKit Go.Rb
attribute [local irreducible] Go.wpQuiet

theorem conv_two (W : World) (x y : Int) (hx : 0 ≤ x ∧ x < 256) (hy : 0 ≤ y ∧ y < 256) : (convert 22 9 (.slice (some ⟨W.heap.size, 0, none⟩) 2 2)).run Try.prog (W.alloc (.cells #[.int .u8 x, .int .u8 y] 5)) = .ok (.string ⟨#[by_ x, by_ y]⟩) (W.alloc (.cells #[.int .u8 x, .int .u8 y] 5)) := by
  have := conv_own (bs := [by_ x, by_ y]) (n := 2) (v := .slice (some ⟨W.heap.size, 0, none⟩) 2 2) (W := W.alloc (.cells #[.int .u8 x, .int .u8 y] 5)) (by
    have := Own.lit W 5 1 2 #[.int .u8 x, .int .u8 y] rfl (by decide)
    rw [show ([by_ x, by_ y].map bV) = [.int .u8 x, .int .u8 y] from by simp [bV_by x hx.1 hx.2, bV_by y hy.1 hy.2]]
    exact this)
  exact this
theorem tmod16 (u : Int) : ∃ t x : Int, u.tmod 65536 = t ∧ ((t < 0 ∧ x = t + 65536) ∨ (¬ t < 0 ∧ x = t)) ∧ x.tmod 256 = loU u ∧ x.tdiv 256 = hiU u ∧ 0 ≤ x ∧ x < 65536 ∧ -65536 < t ∧ t < 65536 := by
  have h1 := Int.tmod_lt_of_pos u (show (0 : Int) < 65536 by omega)
  have h2 := Int.lt_tmod_of_pos u (show (0 : Int) < 65536 by omega)
  have hd : u.tmod 65536 = u - 65536 * (u.tdiv 65536) := by have := Int.mul_tdiv_add_tmod u 65536; omega
  have key : ∀ x : Int, 0 ≤ x → x < 65536 → x = u % 65536 → x.tmod 256 = loU u ∧ x.tdiv 256 = hiU u := fun x h0 h3 he => by
    rw [Int.tmod_eq_emod_of_nonneg h0, Int.tdiv_eq_ediv_of_nonneg h0, he]
    exact ⟨rfl, rfl⟩
  by_cases h : u.tmod 65536 < 0
  · obtain ⟨k1, k2⟩ := key (u.tmod 65536 + 65536) (by omega) (by omega) (by omega)
    exact ⟨_, _, rfl, .inl ⟨h, rfl⟩, k1, k2, by omega, by omega, by omega, by omega⟩
  · obtain ⟨k1, k2⟩ := key (u.tmod 65536) (by omega) (by omega) (by omega)
    exact ⟨_, _, rfl, .inr ⟨h, rfl⟩, k1, k2, by omega, by omega, by omega, by omega⟩

set_option maxHeartbeats 4000000 in
theorem rOctets_2 (us : List Int) (A : Option Addr) (n c B : Nat) (w : World) (hr : Rd w B 1 A n (us.map iV)) (hn : n ≤ 1000000) (hB : B ≤ w.heap.size) :
    Calls Try.prog 24 #[.int .i64 2, .slice A n c] w fun e w' => e = .returned (strV (octsL 2 us)) ∧ Below w.heap.size w w' := by
  have HL := Lib.hid (show us.length = n by simpa using hr.1)
  have HR := Lib.hid hr
  clear hr
  go_enter Try.func24, Try.ntmps24
  go_wp2_with fail
  go_loopw [5, 6] (fun sv iv wr => ∃ i : Nat, i ≤ n ∧ iv = .int .i64 i ∧ sv = strV (octsL 2 (us.take i)) ∧ Below w.heap.size w wr) (fun _ iv _ => n - (intOf iv).toNat)
  case atStart => exact ⟨0, by omega, rfl, rfl, Below.refl _ _⟩
  case round =>
    obtain ⟨i, hi, rfl, rfl, hbw⟩ := hrel
    have HB := Lib.hid hbw
    by_cases hlt : i < n
    · have i1 : (i : Int) < (n : Int) := by omega
      obtain ⟨pa, po, rfl, -, hcell⟩ := ((HR.out.more hB).below HB.out).2 (by omega)
      have x0 := hcell i (by omega)
      have hil : i < us.length := by rw [HL.out]; exact hlt
      rw [List.getElem?_map, List.getElem?_eq_getElem hil] at x0
      have x1 : wr.cell? ⟨pa, po + i, none⟩ = some (.int .i64 us[i]) := x0
      have HN : Hid (us.take (i + 1) = us.take i ++ [us[i]]) := (by rw [List.take_add_one, List.getElem?_eq_getElem hil]; rfl : us.take (i + 1) = us.take i ++ [us[i]])
      have HN2 : Hid (strV (octsL 2 (us.take (i + 1))) = .string ((⟨(octsL 2 (us.take i)).toArray⟩ : ByteArray) ++ ⟨#[by_ (loU us[i]), by_ (hiU us[i])]⟩)) := (by rw [HN.out, octsL_snoc]; show Value.string _ = _; rw [← cat_]; rfl : strV (octsL 2 (us.take (i + 1))) = .string ((⟨(octsL 2 (us.take i)).toArray⟩ : ByteArray) ++ ⟨#[by_ (loU us[i]), by_ (hiU us[i])]⟩))
      generalize us[i] = u at *
      clear hcell x0 hbw HN
      have hb1 := loU_bd u
      have hb2 := hiU_bd u
      have hcv := conv_two wr (loU u) (hiU u) hb1 hb2
      obtain ⟨t, x, ht, hx, hxl, hxh, hx0, hx1, ht0, ht1⟩ := tmod16 u
      have hl1 : loU u % 256 = loU u := by omega
      have hl2 : hiU u % 256 = hiU u := by omega
      generalize loU u = l at *
      generalize hiU u = h at *
      have hz2 : (⟨#[by_ l, by_ h]⟩ : ByteArray).size = 2 := rfl
      have hz1 : (⟨(octsL 2 (us.take i)).toArray⟩ : ByteArray).size ≤ 2000000 := by
        have := octsL_len 2 rfl (us.take i)
        rw [List.length_take] at this
        simp only [ByteArray.size, List.size_toArray]
        omega
      generalize (⟨#[by_ l, by_ h]⟩ : ByteArray) = two at *
      unfold strV
      generalize (⟨(octsL 2 (us.take i)).toArray⟩ : ByteArray) = acc at *
      rcases hx with ⟨hneg, hxe⟩ | ⟨hneg, hxe⟩
      · have hxe' : t + 65536 = x := hxe.symm
        clear hxe
        go_wp2_with (rw [hcv])
        go_roundw
        case rel => exact ⟨i + 1, by omega, by go_num, HN2.out.symm, HB.out.alloc HB.out.size _⟩
        case measure => simp [intOf]; omega
      · subst hxe
        go_wp2_with (rw [hcv])
        go_roundw
        case rel => exact ⟨i + 1, by omega, by go_num, HN2.out.symm, HB.out.alloc HB.out.size _⟩
        case measure => simp [intOf]; omega
    · have e : us.take i = us := List.take_of_length_le (by rw [HL.out]; omega)
      have i1 : ¬ (i : Int) < (n : Int) := by omega
      rw [e]
      clear e hbw
      go_wp2_with fail
      go_ret
      exact ⟨rfl, HB.out⟩

set_option maxHeartbeats 4000000 in
theorem rOctets_3 (us : List Int) (A : Option Addr) (n c B : Nat) (w : World) (hr : Rd w B 1 A n (us.map iV)) (hn : n ≤ 1000000) (hB : B ≤ w.heap.size) :
    Calls Try.prog 24 #[.int .i64 3, .slice A n c] w fun e w' => e = .returned (strV (octsL 3 us)) ∧ Below w.heap.size w w' := by
  have HL := Lib.hid (show us.length = n by simpa using hr.1)
  have HR := Lib.hid hr
  clear hr
  go_enter Try.func24, Try.ntmps24
  go_wp2_with fail
  go_loopw [5, 6] (fun sv iv wr => ∃ i : Nat, i ≤ n ∧ iv = .int .i64 i ∧ sv = strV (octsL 3 (us.take i)) ∧ Below w.heap.size w wr) (fun _ iv _ => n - (intOf iv).toNat)
  case atStart => exact ⟨0, by omega, rfl, rfl, Below.refl _ _⟩
  case round =>
    obtain ⟨i, hi, rfl, rfl, hbw⟩ := hrel
    have HB := Lib.hid hbw
    by_cases hlt : i < n
    · have i1 : (i : Int) < (n : Int) := by omega
      obtain ⟨pa, po, rfl, -, hcell⟩ := ((HR.out.more hB).below HB.out).2 (by omega)
      have x0 := hcell i (by omega)
      have hil : i < us.length := by rw [HL.out]; exact hlt
      rw [List.getElem?_map, List.getElem?_eq_getElem hil] at x0
      have x1 : wr.cell? ⟨pa, po + i, none⟩ = some (.int .i64 us[i]) := x0
      have HN : Hid (us.take (i + 1) = us.take i ++ [us[i]]) := (by rw [List.take_add_one, List.getElem?_eq_getElem hil]; rfl : us.take (i + 1) = us.take i ++ [us[i]])
      have HN2 : Hid (strV (octsL 3 (us.take (i + 1))) = .string ((⟨(octsL 3 (us.take i)).toArray⟩ : ByteArray) ++ ⟨#[by_ (hiU us[i]), by_ (loU us[i])]⟩)) := (by rw [HN.out, octsL_snoc]; show Value.string _ = _; rw [← cat_]; rfl : strV (octsL 3 (us.take (i + 1))) = .string ((⟨(octsL 3 (us.take i)).toArray⟩ : ByteArray) ++ ⟨#[by_ (hiU us[i]), by_ (loU us[i])]⟩))
      generalize us[i] = u at *
      clear hcell x0 hbw HN
      have hb1 := loU_bd u
      have hb2 := hiU_bd u
      have hcv := conv_two wr (hiU u) (loU u) hb2 hb1
      obtain ⟨t, x, ht, hx, hxl, hxh, hx0, hx1, ht0, ht1⟩ := tmod16 u
      have hl1 : loU u % 256 = loU u := by omega
      have hl2 : hiU u % 256 = hiU u := by omega
      generalize loU u = l at *
      generalize hiU u = h at *
      have hz2 : (⟨#[by_ h, by_ l]⟩ : ByteArray).size = 2 := rfl
      have hz1 : (⟨(octsL 3 (us.take i)).toArray⟩ : ByteArray).size ≤ 2000000 := by
        have := octsL_len 3 rfl (us.take i)
        rw [List.length_take] at this
        simp only [ByteArray.size, List.size_toArray]
        omega
      generalize (⟨#[by_ h, by_ l]⟩ : ByteArray) = two at *
      unfold strV
      generalize (⟨(octsL 3 (us.take i)).toArray⟩ : ByteArray) = acc at *
      rcases hx with ⟨hneg, hxe⟩ | ⟨hneg, hxe⟩
      · have hxe' : t + 65536 = x := hxe.symm
        clear hxe
        go_wp2_with (rw [hcv])
        go_roundw
        case rel => exact ⟨i + 1, by omega, by go_num, HN2.out.symm, HB.out.alloc HB.out.size _⟩
        case measure => simp [intOf]; omega
      · subst hxe
        go_wp2_with (rw [hcv])
        go_roundw
        case rel => exact ⟨i + 1, by omega, by go_num, HN2.out.symm, HB.out.alloc HB.out.size _⟩
        case measure => simp [intOf]; omega
    · have e : us.take i = us := List.take_of_length_le (by rw [HL.out]; omega)
      have i1 : ¬ (i : Int) < (n : Int) := by omega
      rw [e]
      clear e hbw
      go_wp2_with fail
      go_ret
      exact ⟨rfl, HB.out⟩

set_option maxHeartbeats 4000000 in
theorem rOctets_no (k : Int) (h2 : ¬ k = 2) (h3 : ¬ k = 3) (us : List Int) (A : Option Addr) (n c B : Nat) (w : World) (hr : Rd w B 1 A n (us.map iV)) (hn : n ≤ 1000000) :
    Calls Try.prog 24 #[.int .i64 k, .slice A n c] w fun e w' => e = .returned (.string ⟨#[]⟩) ∧ w = w' := by
  have i2 : (k == 2) = false := by rw [beq_eq_false_iff_ne]; exact h2
  have i3 : (k == 3) = false := by rw [beq_eq_false_iff_ne]; exact h3
  have HL := Lib.hid (show us.length = n by simpa using hr.1)
  have HR := Lib.hid hr
  clear hr
  go_enter Try.func24, Try.ntmps24
  go_wp2_with fail
  go_loopw [5, 6] (fun sv iv wr => ∃ i : Nat, i ≤ n ∧ iv = .int .i64 i ∧ sv = .string ⟨#[]⟩ ∧ wr = w) (fun _ iv _ => n - (intOf iv).toNat)
  case atStart => exact ⟨0, by omega, rfl, by simp⟩
  case round =>
    obtain ⟨i, hi, rfl, rfl, rfl⟩ := hrel
    by_cases hlt : i < n
    · have i1 : (i : Int) < (n : Int) := by omega
      obtain ⟨pa, po, rfl, -, hcell⟩ := HR.out.2 (by omega)
      have x0 := hcell i (by omega)
      have hil : i < us.length := by rw [HL.out]; exact hlt
      rw [List.getElem?_map, List.getElem?_eq_getElem hil] at x0
      have x1 : wr.cell? ⟨pa, po + i, none⟩ = some (.int .i64 us[i]) := x0
      generalize us[i] = u at *
      clear hcell x0
      obtain ⟨t, x, ht, hx, hxl, hxh, hx0, hx1, ht0, ht1⟩ := tmod16 u
      generalize loU u = l at *
      generalize hiU u = h at *
      rcases hx with ⟨hneg, hxe⟩ | ⟨hneg, hxe⟩
      · have hxe' : t + 65536 = x := hxe.symm
        clear hxe
        go_wp2_with fail
        go_roundw
        case rel => exact ⟨i + 1, by omega, by go_num, by simp⟩
        case measure => simp [intOf]; omega
      · subst hxe
        go_wp2_with fail
        go_roundw
        case rel => exact ⟨i + 1, by omega, by go_num, by simp⟩
        case measure => simp [intOf]; omega
    · have i1 : ¬ (i : Int) < (n : Int) := by omega
      go_wp2_with fail
      go_ret
      exact ⟨rfl, rfl⟩
theorem rOctets_any (k : Int) (us : List Int) (A : Option Addr) (n c B : Nat) (w : World) (hr : Rd w B 1 A n (us.map iV)) (hn : n ≤ 1000000) (hB : B ≤ w.heap.size) :
    Calls Try.prog 24 #[.int .i64 k, .slice A n c] w fun e w' => e = .returned (strV (octsL k us)) ∧ Below w.heap.size w w' := by
  by_cases h2 : k = 2
  · subst h2; exact rOctets_2 us A n c B w hr hn hB
  by_cases h3 : k = 3
  · subst h3; exact rOctets_3 us A n c B w hr hn hB
  have ht : twoP k = false := by unfold twoP; simp [h2, h3]
  rw [octsL_none k ht us]
  refine (rOctets_no k h2 h3 us A n c B w hr hn).mono ?_
  rintro e w' ⟨rfl, rfl⟩
  exact ⟨rfl, Below.refl _ _⟩
end Go.Proofs.Ytoagjhhdijebmaa
