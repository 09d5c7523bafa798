/-
  The contract of order's function Units; no condition beyond those that each theorem states.
-/
import Derived.Test.YtoagjhhdijebmaaOrd1
namespace Go.Proofs.Ytoagjhhdijebmaa
open Go.RowKit Go.Rb
attribute [local irreducible] Go.wpQuiet

theorem info3 : (Try.prog.info? 3).map (fun i => (i.zero, i.size, i.bytes)) = some (some (.int .i64 0), 1, 8) := by kernel_rfl
def unAt (k : Int) (bs : List UInt8) (j : Nat) : Int := if k = 2 then ((bs.getD (2 * j) 0).toNat : Int) + 256 * ((bs.getD (2 * j + 1) 0).toNat : Int) else ((bs.getD (2 * j + 1) 0).toNat : Int) + 256 * ((bs.getD (2 * j) 0).toNat : Int)
def unK (k : Int) (bs : List UInt8) (j : Nat) : List Int := (List.range j).map (unAt k bs)
theorem unK_succ (k : Int) (bs : List UInt8) (j : Nat) : unK k bs (j + 1) = unK k bs j ++ [unAt k bs j] := by simp [unK, List.range_succ]
theorem unK_len (k : Int) (bs : List UInt8) (j : Nat) : (unK k bs j).length = j := by simp [unK]
def unitsB (k : Int) (bs : List UInt8) : List Int := if twoP k then unK k bs (bs.length / 2) else []
theorem getD_at {bs : List UInt8} {i : Nat} (h : i < bs.length) : bs.getD i 0 = bs[i] := by rw [List.getD_eq_getElem?_getD, List.getElem?_eq_getElem h]; rfl
theorem unAt_2 {bs : List UInt8} {j : Nat} (h : 2 * j + 1 < bs.length) : unAt 2 bs j = ((bs[2 * j]'(by omega)).toNat : Int) + 256 * ((bs[2 * j + 1]'h).toNat : Int) := by
  unfold unAt
  rw [if_pos rfl, getD_at h, getD_at (show 2 * j < bs.length by omega)]
theorem unAt_3 {bs : List UInt8} {j : Nat} (h : 2 * j + 1 < bs.length) : unAt 3 bs j = ((bs[2 * j + 1]'h).toNat : Int) + 256 * ((bs[2 * j]'(by omega)).toNat : Int) := by
  unfold unAt
  rw [if_neg (by decide), getD_at h, getD_at (show 2 * j < bs.length by omega)]
theorem or_eight (r x : Int) (h0 : 0 ≤ r) (h1 : r < 1048576) (h2 : 0 ≤ x) (h3 : x < 256) : bits .or .i64 (r * 256) x = r * 256 + x := by
  obtain ⟨a, rfl⟩ := Int.eq_ofNat_of_zero_le h0
  obtain ⟨b, rfl⟩ := Int.eq_ofNat_of_zero_le h2
  have e : ((a : Int) * (256 : Int)) = ((a <<< 8 : Nat) : Int) := by rw [Nat.shiftLeft_eq]; omega
  have hs : a <<< 8 = a * 256 := by rw [Nat.shiftLeft_eq]
  rw [e, i64_or _ _ (by omega) (by omega), ← Nat.shiftLeft_add_eq_or_of_lt (by omega : b < 2 ^ 8)]
  omega

set_option maxHeartbeats 4000000 in
theorem units_2 (bs : List UInt8) (A : Option Addr) (n c B : Nat) (w : World) (hr : Rd w B 1 A n (bs.map bV)) (hn : n ≤ 1000000) (hB : B ≤ w.heap.size) :
    Calls Try.prog 35 #[.int .i64 2, .slice A n c] w (RetNewI w (unitsB 2 bs)) := by
  obtain ⟨i0, hi0, hz0, hz1, hz2⟩ := info_parts info3
  have HL := Lib.hid (show bs.length = n by simpa using hr.1)
  have HR := Lib.hid hr
  have HT := Lib.hid (two_any 2)
  rw [show twoP 2 = true from rfl] at HT
  clear hr
  go_enter Try.func35, Try.ntmps35
  go_wp2_with (go_at_call 46; refine (HT.out _).mono ?_; rintro e1 w1 ⟨rfl, rfl⟩)
  go_loopw [5, 6] (fun v iv wr => ∃ j : Nat, 2 * j ≤ n ∧ iv = .int .i64 (2 * (j : Int)) ∧ Own wr 3 1 v j ((unK 2 bs j).map iV) ∧ Hid (∀ k, v.ownBlock = some k → w.heap.size ≤ k) ∧ Below w.heap.size w wr) (fun _ iv _ => n - (intOf iv).toNat)
  case atStart => exact ⟨0, by omega, rfl, Own.nil_ _ _ _, by simp [Hid, Value.ownBlock], Below.refl _ _⟩
  case round =>
    obtain ⟨j, hj, rfl, hv, hkv, hbw⟩ := hrel
    obtain ⟨Av, cv, rfl, -, -⟩ := hv.len_
    have HB := Lib.hid hbw
    have HV := Lib.hid hv
    clear hv
    by_cases hlt : 2 * j + 1 < n
    · have i1 : 2 * (j : Int) + 1 < (n : Int) := by omega
      have i2 : 2 * (j : Int) < (n : Int) := by omega
      have i3 : (0 : Int) ≤ 2 * (j : Int) := by omega
      have i4 : (2 * (j : Int)).toNat = 2 * j := by omega
      have i5 : (2 * (j : Int) + 1).toNat = 2 * j + 1 := by omega
      have i6 : (0 : Int) ≤ 2 * (j : Int) + 1 := by omega
      obtain ⟨pa, po, rfl, -, hcell⟩ := ((HR.out.more hB).below HB.out).2 (by omega)
      have x0 := hcell (2 * j) (by omega)
      have y0 := hcell (2 * j + 1) (by omega)
      rw [List.getElem?_map, List.getElem?_eq_getElem (by rw [HL.out]; omega)] at x0 y0
      have hxu := (bs[2 * j]'(by rw [HL.out]; omega)).toNat_lt
      have hyu := (bs[2 * j + 1]'(by rw [HL.out]; omega)).toNat_lt
      have HN2 : Hid ((unK 2 bs (j + 1)).map iV = (unK 2 bs j).map iV ++ [.int .i64 (unAt 2 bs j)]) := (by rw [unK_succ, List.map_append]; rfl : (unK 2 bs (j + 1)).map iV = (unK 2 bs j).map iV ++ [.int .i64 (unAt 2 bs j)])
      have hun := unAt_2 (bs := bs) (j := j) (by rw [HL.out]; omega)
      rw [hun] at HN2
      have x1 : wr.cell? ⟨pa, po + 2 * j, none⟩ = some (.int .u8 ((bs[2 * j]'(by rw [HL.out]; omega)).toNat : Int)) := x0
      have y1 : wr.cell? ⟨pa, po + (2 * j + 1), none⟩ = some (.int .u8 ((bs[2 * j + 1]'(by rw [HL.out]; omega)).toNat : Int)) := y0
      generalize (bs[2 * j]'(by rw [HL.out]; omega)).toNat = x at *
      generalize (bs[2 * j + 1]'(by rw [HL.out]; omega)).toNat = y at *
      clear hcell x0 y0 hbw hun
      have hor : bits .or .i64 ((y : Int) * 256) (x : Int) = (x : Int) + 256 * (y : Int) := by rw [or_eight _ _ (by omega) (by omega) (by omega) (by omega)]; omega
      generalize (unK 2 bs j).map iV = xs at *
      go_wp2_with fail
      go_quiet (fail)
      go_wp2_with (at_builtin; refine wpList_append_mine _ rfl (.tmp 34) (.tmp 39) _ rfl 3 i0 _ 1 8 Try.underlying37 hi0 hz0 hz1 hz2 rfl (by omega) (.slice Av j cv) j xs rfl (by exact (HV.out.drewN nq).alloc _) _ 1 1 [_] rfl rfl (by exact news_push rfl rfl) (by simp [Value.oneCell']) (by omega) (by simp only [maxLen]; omega) (by omega) _ rfl ?_; intro g6 o6 c6 w6 hown6 hgrow6 hat6; have HO6 := Lib.hid hown6; have HB6 := Lib.hid (Below.grown ((below_drewN HB.out nq).alloc HB.out.size _) hgrow6 (by simp; have := HB.out.size; omega) hkv.out); have HK6 : Hid (w.heap.size ≤ g6) := (by show _ ≤ _; rcases hat6 with h | h; exact hkv.out _ h; rw [h]; have := HB.out.size; simp; omega); clear hown6 hgrow6 hat6)
      go_roundw
      case rel => exact ⟨j + 1, by omega, by go_num, by rw [HN2.out]; exact HO6.out, fun k hk => by simp [Value.ownBlock] at hk; rw [← hk]; exact HK6.out, HB6.out⟩
      case measure => simp [intOf]; omega
    · have i1 : ¬ 2 * (j : Int) + 1 < (n : Int) := by omega
      have e : j = bs.length / 2 := by rw [HL.out]; omega
      have HF : Hid (Own wr 3 1 (.slice Av j cv) (unitsB 2 bs).length ((unitsB 2 bs).map iV)) := by
        have := HV.out
        have e2 : unitsB 2 bs = unK 2 bs j := by rw [e]; rfl
        rw [e2, unK_len]
        exact this
      clear e hbw
      go_wp2_with fail
      go_ret
      exact ⟨_, rfl, HF.out, HB.out, hkv.out⟩

set_option maxHeartbeats 4000000 in
theorem units_3 (bs : List UInt8) (A : Option Addr) (n c B : Nat) (w : World) (hr : Rd w B 1 A n (bs.map bV)) (hn : n ≤ 1000000) (hB : B ≤ w.heap.size) :
    Calls Try.prog 35 #[.int .i64 3, .slice A n c] w (RetNewI w (unitsB 3 bs)) := by
  obtain ⟨i0, hi0, hz0, hz1, hz2⟩ := info_parts info3
  have HL := Lib.hid (show bs.length = n by simpa using hr.1)
  have HR := Lib.hid hr
  have HT := Lib.hid (two_any 3)
  rw [show twoP 3 = true from rfl] at HT
  clear hr
  go_enter Try.func35, Try.ntmps35
  go_wp2_with (go_at_call 46; refine (HT.out _).mono ?_; rintro e1 w1 ⟨rfl, rfl⟩)
  go_loopw [5, 6] (fun v iv wr => ∃ j : Nat, 2 * j ≤ n ∧ iv = .int .i64 (2 * (j : Int)) ∧ Own wr 3 1 v j ((unK 3 bs j).map iV) ∧ Hid (∀ k, v.ownBlock = some k → w.heap.size ≤ k) ∧ Below w.heap.size w wr) (fun _ iv _ => n - (intOf iv).toNat)
  case atStart => exact ⟨0, by omega, rfl, Own.nil_ _ _ _, by simp [Hid, Value.ownBlock], Below.refl _ _⟩
  case round =>
    obtain ⟨j, hj, rfl, hv, hkv, hbw⟩ := hrel
    obtain ⟨Av, cv, rfl, -, -⟩ := hv.len_
    have HB := Lib.hid hbw
    have HV := Lib.hid hv
    clear hv
    by_cases hlt : 2 * j + 1 < n
    · have i1 : 2 * (j : Int) + 1 < (n : Int) := by omega
      have i2 : 2 * (j : Int) < (n : Int) := by omega
      have i3 : (0 : Int) ≤ 2 * (j : Int) := by omega
      have i4 : (2 * (j : Int)).toNat = 2 * j := by omega
      have i5 : (2 * (j : Int) + 1).toNat = 2 * j + 1 := by omega
      have i6 : (0 : Int) ≤ 2 * (j : Int) + 1 := by omega
      obtain ⟨pa, po, rfl, -, hcell⟩ := ((HR.out.more hB).below HB.out).2 (by omega)
      have x0 := hcell (2 * j) (by omega)
      have y0 := hcell (2 * j + 1) (by omega)
      rw [List.getElem?_map, List.getElem?_eq_getElem (by rw [HL.out]; omega)] at x0 y0
      have hxu := (bs[2 * j]'(by rw [HL.out]; omega)).toNat_lt
      have hyu := (bs[2 * j + 1]'(by rw [HL.out]; omega)).toNat_lt
      have HN2 : Hid ((unK 3 bs (j + 1)).map iV = (unK 3 bs j).map iV ++ [.int .i64 (unAt 3 bs j)]) := (by rw [unK_succ, List.map_append]; rfl : (unK 3 bs (j + 1)).map iV = (unK 3 bs j).map iV ++ [.int .i64 (unAt 3 bs j)])
      have hun := unAt_3 (bs := bs) (j := j) (by rw [HL.out]; omega)
      rw [hun] at HN2
      have x1 : wr.cell? ⟨pa, po + 2 * j, none⟩ = some (.int .u8 ((bs[2 * j]'(by rw [HL.out]; omega)).toNat : Int)) := x0
      have y1 : wr.cell? ⟨pa, po + (2 * j + 1), none⟩ = some (.int .u8 ((bs[2 * j + 1]'(by rw [HL.out]; omega)).toNat : Int)) := y0
      generalize (bs[2 * j]'(by rw [HL.out]; omega)).toNat = x at *
      generalize (bs[2 * j + 1]'(by rw [HL.out]; omega)).toNat = y at *
      clear hcell x0 y0 hbw hun
      have hor : bits .or .i64 ((x : Int) * 256) (y : Int) = (y : Int) + 256 * (x : Int) := by rw [or_eight _ _ (by omega) (by omega) (by omega) (by omega)]; omega
      generalize (unK 3 bs j).map iV = xs at *
      go_wp2_with fail
      go_quiet (fail)
      go_wp2_with (at_builtin; refine wpList_append_mine _ rfl (.tmp 34) (.tmp 39) _ rfl 3 i0 _ 1 8 Try.underlying37 hi0 hz0 hz1 hz2 rfl (by omega) (.slice Av j cv) j xs rfl (by exact (HV.out.drewN nq).alloc _) _ 1 1 [_] rfl rfl (by exact news_push rfl rfl) (by simp [Value.oneCell']) (by omega) (by simp only [maxLen]; omega) (by omega) _ rfl ?_; intro g6 o6 c6 w6 hown6 hgrow6 hat6; have HO6 := Lib.hid hown6; have HB6 := Lib.hid (Below.grown ((below_drewN HB.out nq).alloc HB.out.size _) hgrow6 (by simp; have := HB.out.size; omega) hkv.out); have HK6 : Hid (w.heap.size ≤ g6) := (by show _ ≤ _; rcases hat6 with h | h; exact hkv.out _ h; rw [h]; have := HB.out.size; simp; omega); clear hown6 hgrow6 hat6)
      go_roundw
      case rel => exact ⟨j + 1, by omega, by go_num, by rw [HN2.out]; exact HO6.out, fun k hk => by simp [Value.ownBlock] at hk; rw [← hk]; exact HK6.out, HB6.out⟩
      case measure => simp [intOf]; omega
    · have i1 : ¬ 2 * (j : Int) + 1 < (n : Int) := by omega
      have e : j = bs.length / 2 := by rw [HL.out]; omega
      have HF : Hid (Own wr 3 1 (.slice Av j cv) (unitsB 3 bs).length ((unitsB 3 bs).map iV)) := by
        have := HV.out
        have e2 : unitsB 3 bs = unK 3 bs j := by rw [e]; rfl
        rw [e2, unK_len]
        exact this
      clear e hbw
      go_wp2_with fail
      go_ret
      exact ⟨_, rfl, HF.out, HB.out, hkv.out⟩

set_option maxHeartbeats 1000000 in
theorem units_any (k : Int) (bs : List UInt8) (A : Option Addr) (n c B : Nat) (w : World) (hr : Rd w B 1 A n (bs.map bV)) (hn : n ≤ 1000000) (hB : B ≤ w.heap.size) :
    Calls Try.prog 35 #[.int .i64 k, .slice A n c] w (RetNewI w (unitsB k bs)) := by
  by_cases h2 : k = 2
  · subst h2; exact units_2 bs A n c B w hr hn hB
  by_cases h3 : k = 3
  · subst h3; exact units_3 bs A n c B w hr hn hB
  have ht : twoP k = false := by unfold twoP; simp [h2, h3]
  have HT := Lib.hid (two_any k)
  rw [ht] at HT
  rw [show unitsB k bs = [] from by unfold unitsB; rw [ht]; rfl]
  clear hr
  go_enter Try.func35, Try.ntmps35
  go_wp2_with (go_at_call 46; refine (HT.out _).mono ?_; rintro e1 w1 ⟨rfl, rfl⟩)
  go_ret
  exact ⟨_, rfl, Own.nil_ _ _ _, Below.refl _ _, by simp [Value.ownBlock]⟩
end Go.Proofs.Ytoagjhhdijebmaa
