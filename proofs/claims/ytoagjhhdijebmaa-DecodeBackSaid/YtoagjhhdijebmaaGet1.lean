/-
  Contracts of code.length and of code.Get; no condition beyond those that each theorem states.
-/
import Derived.Test.YtoagjhhdijebmaaCode5
import Derived.Test.YtoagjhhdijebmaaRegion
import Derived.LoopN
namespace Go.Proofs.Ytoagjhhdijebmaa
open Go.RowKit Go.Rb

def lenB (c : Int) : Int := if c < 128 then 1 else if 194 ≤ c ∧ c < 224 then 2 else if 224 ≤ c ∧ c < 240 then 3 else if 240 ≤ c ∧ c < 245 then 4 else 0
theorem lenB_cases (c : Int) : (c < 128 ∧ lenB c = 1) ∨ (128 ≤ c ∧ c < 194 ∧ lenB c = 0) ∨ (194 ≤ c ∧ c < 224 ∧ lenB c = 2) ∨ (224 ≤ c ∧ c < 240 ∧ lenB c = 3) ∨ (240 ≤ c ∧ c < 245 ∧ lenB c = 4) ∨ (245 ≤ c ∧ lenB c = 0) := by
  unfold lenB
  by_cases h1 : c < 128
  · exact .inl ⟨h1, if_pos h1⟩
  · rw [if_neg h1]
    by_cases h2 : 194 ≤ c ∧ c < 224
    · rw [if_pos h2]; exact .inr (.inr (.inl ⟨h2.1, h2.2, rfl⟩))
    · rw [if_neg h2]
      by_cases h3 : 224 ≤ c ∧ c < 240
      · rw [if_pos h3]; exact .inr (.inr (.inr (.inl ⟨h3.1, h3.2, rfl⟩)))
      · rw [if_neg h3]
        by_cases h4 : 240 ≤ c ∧ c < 245
        · rw [if_pos h4]; exact .inr (.inr (.inr (.inr (.inl ⟨h4.1, h4.2, rfl⟩))))
        · rw [if_neg h4]; omega

set_option maxHeartbeats 400000 in
theorem length_any (c : Int) (w : World) : Calls Try.prog 47 #[.int .u8 c] w fun e w' => e = .returned (.int .i64 (lenB c)) ∧ w = w' := by
  rcases lenB_cases c with ⟨h1, h⟩ | ⟨h1, h2, h⟩ | ⟨h1, h2, h⟩ | ⟨h1, h2, h⟩ | ⟨h1, h2, h⟩ | ⟨h1, h⟩
  all_goals
    rw [h]
    clear h
    go_enter Try.func47, Try.ntmps47
    go_wp2
    go_ret
    exact ⟨rfl, rfl⟩

/-- What number the octets say; no code point: 65533, one octet. -/
def badG : Int × Int := (65533, 1)
def finG (n r : Int) : Int × Int := if sizeI r = n then (r, n) else badG
def cont (c : UInt8) : Prop := (c.toNat : Int) / 64 = 2
instance (c : UInt8) : Decidable (cont c) := inferInstanceAs (Decidable ((c.toNat : Int) / 64 = 2))
def low (c : UInt8) : Int := (c.toNat : Int) % 64
def getP : List UInt8 → Int × Int
  | [] => (65533, 0)
  | c0 :: rest =>
    if lenB c0.toNat = 1 then (c0.toNat, 1)
    else if lenB c0.toNat = 2 then
      match rest with
      | c1 :: _ => if cont c1 then finG 2 ((c0.toNat : Int) % 32 * 64 + low c1) else badG
      | _ => badG
    else if lenB c0.toNat = 3 then
      match rest with
      | c1 :: c2 :: _ => if cont c1 then if cont c2 then finG 3 (((c0.toNat : Int) % 16 * 64 + low c1) * 64 + low c2) else badG else badG
      | _ => badG
    else if lenB c0.toNat = 4 then
      match rest with
      | c1 :: c2 :: c3 :: _ => if cont c1 then if cont c2 then if cont c3 then finG 4 ((((c0.toNat : Int) % 8 * 64 + low c1) * 64 + low c2) * 64 + low c3) else badG else badG else badG
      | _ => badG
    else badG
def GetTo (p : Int × Int) (w : World) (e : Ending) (w' : World) : Prop := e = .returned (.tuple #[.int .i64 p.1, .int .i64 p.2]) ∧ w = w'

theorem or_six (r x : Int) (h0 : 0 ≤ r) (h1 : r < 1048576) (h2 : 0 ≤ x) (h3 : x < 64) : bits .or .i64 (r * 64) x = r * 64 + x := by
  obtain ⟨a, rfl⟩ := Int.eq_ofNat_of_zero_le h0
  obtain ⟨b, rfl⟩ := Int.eq_ofNat_of_zero_le h2
  have e : ((a : Int) * (64 : Int)) = ((a <<< 6 : Nat) : Int) := by rw [Nat.shiftLeft_eq]; omega
  have hs : a <<< 6 = a * 64 := by rw [Nat.shiftLeft_eq]
  rw [e, i64_or _ _ (by omega) (by omega), ← Nat.shiftLeft_add_eq_or_of_lt (by omega : b < 2 ^ 6)]
  omega
theorem u8_mask (x : Int) (h0 : 0 ≤ x) (h1 : x < 256) : bits .and .u8 x 63 = x % 64 := by
  obtain ⟨n, rfl⟩ := Int.eq_ofNat_of_zero_le h0
  have : ∀ n, n < 256 → bits .and .u8 (n : Nat) 63 = ((n : Nat) : Int) % 64 := by decide +kernel
  exact this n (by omega)

/-- The octets of a slice, by their cells. -/
theorem Rd.byte {w : World} {B n : Nat} {A : Option Addr} {bs : List UInt8} (h : Rd w B 1 A n (bs.map bV)) (hn : 0 < n) :
    ∃ b off, A = some ⟨b, off, none⟩ ∧ b < B ∧ ∀ j (hj : j < bs.length), w.cell? ⟨b, off + j, none⟩ = some (.int .u8 (bs[j].toNat : Int)) := by
  obtain ⟨b, off, hA, hb, hc⟩ := h.2 hn
  have hl : bs.length = n := by simpa using h.1
  refine ⟨b, off, hA, hb, fun j hj => ?_⟩
  rw [hc j (by omega), List.getElem?_map, List.getElem?_eq_getElem hj]
  rfl

set_option maxHeartbeats 2000000 in
theorem codeGet_2 (x0 x1 : Int) (b off n c : Nat) (w : World) (h0 : 194 ≤ x0) (h1 : x0 < 224) (l1 : 0 ≤ x1) (u1 : x1 < 256)
    (d0 : w.cell? ⟨b, off, none⟩ = some (.int .u8 x0)) (d1 : w.cell? ⟨b, off + 1, none⟩ = some (.int .u8 x1)) (hn : 2 ≤ n) (hc : n ≤ c) (hn2 : n ≤ 1000000) (p : Int × Int)
    (hp : Hid ((if x1 / 64 = 2 then finG 2 (x0 % 32 * 64 + x1 % 64) else badG) = p)) :
    Calls Try.prog 38 #[.slice (some ⟨b, off, none⟩) n c] w (GetTo p w) := by
  have hle := length_any x0
  rw [show lenB x0 = 2 by unfold lenB; rw [if_neg (by omega), if_pos ⟨h0, h1⟩]] at hle
  have HL := Lib.hid hle
  have m0 := i64_mask 5 (by omega) x0 31 (by omega) (by omega) rfl
  have m1 := u8_mask x1 l1 u1
  have hn0 : ((n : Int) == 0) = false := by simp; omega
  have hc1 : ¬ c = 1 := by omega
  have o1 := or_six (x0 % 32) (x1 % 64) (by omega) (by omega) (by omega) (by omega)
  clear hle
  go_enter Try.func38, Try.ntmps38
  go_wp2_with (go_at_call 47; refine (HL.out _).mono ?_; rintro e w' ⟨rfl, rfl⟩)
  refine wp_loop_rounds 2 ?_
  by_cases t1 : x1 / 64 = 2
  case neg =>
    have q1 : (x1 / 64 != 2) = true := by simpa using t1
    have hpp : Hid (badG = p) := by have := hp.out; rw [if_neg t1] at this; exact this
    clear t1
    rw [rounds_succ]
    go_wp2
    go_ret2
    exact ⟨by rw [← hpp.out]; rfl, rfl⟩
  have q1 : (x1 / 64 != 2) = false := by simpa using t1
  have T1 := Lib.hid t1
  clear t1
  rw [rounds_succ]
  go_wp2
  rw [rounds_succ]
  go_wp2_with fail
  have hpp : Hid (finG 2 (x0 % 32 * 64 + x1 % 64) = p) := by have := hp.out; rw [if_pos T1.out] at this; exact this
  refine (codeSize_any _ _).mono ?_
  rintro e w' ⟨rfl, rfl⟩
  unfold finG at hpp
  generalize sizeI (x0 % 32 * 64 + x1 % 64) = sz at *
  by_cases hs : sz = 2
  · have hpq : Hid (((x0 % 32 * 64 + x1 % 64, 2) : Int × Int) = p) := by have := hpp.out; rw [if_pos hs] at this; exact this
    subst hs
    go_wp2
    go_ret2
    exact ⟨by rw [← hpq.out]; rfl, rfl⟩
  · have hsb : (sz != 2) = true := by simpa using hs
    have hpq : Hid (badG = p) := by have := hpp.out; rw [if_neg hs] at this; exact this
    go_wp2
    go_ret2
    exact ⟨by rw [← hpq.out]; rfl, rfl⟩

set_option maxHeartbeats 2000000 in
theorem codeGet_3 (x0 x1 x2 : Int) (b off n c : Nat) (w : World) (h0 : 224 ≤ x0) (h1 : x0 < 240) (l1 : 0 ≤ x1) (u1 : x1 < 256) (l2 : 0 ≤ x2) (u2 : x2 < 256)
    (d0 : w.cell? ⟨b, off, none⟩ = some (.int .u8 x0)) (d1 : w.cell? ⟨b, off + 1, none⟩ = some (.int .u8 x1)) (d2 : w.cell? ⟨b, off + 2, none⟩ = some (.int .u8 x2)) (hn : 3 ≤ n) (hc : n ≤ c) (hn2 : n ≤ 1000000) (p : Int × Int)
    (hp : Hid ((if x1 / 64 = 2 then if x2 / 64 = 2 then finG 3 ((x0 % 16 * 64 + x1 % 64) * 64 + x2 % 64) else badG else badG) = p)) :
    Calls Try.prog 38 #[.slice (some ⟨b, off, none⟩) n c] w (GetTo p w) := by
  have hle := length_any x0
  rw [show lenB x0 = 3 by unfold lenB; rw [if_neg (by omega), if_neg (by omega), if_pos ⟨h0, h1⟩]] at hle
  have HL := Lib.hid hle
  have m0 := i64_mask 4 (by omega) x0 15 (by omega) (by omega) rfl
  have m1 := u8_mask x1 l1 u1
  have m2 := u8_mask x2 l2 u2
  have d2' : w.cell? ⟨b, off + 1 + 1, none⟩ = some (.int .u8 x2) := by rw [Nat.add_assoc]; exact d2
  have hn0 : ((n : Int) == 0) = false := by simp; omega
  have hc1 : ¬ c = 1 := by omega
  have o1 := or_six (x0 % 16) (x1 % 64) (by omega) (by omega) (by omega) (by omega)
  have o2 := or_six (x0 % 16 * 64 + x1 % 64) (x2 % 64) (by omega) (by omega) (by omega) (by omega)
  clear hle
  go_enter Try.func38, Try.ntmps38
  go_wp2_with (go_at_call 47; refine (HL.out _).mono ?_; rintro e w' ⟨rfl, rfl⟩)
  refine wp_loop_rounds 3 ?_
  by_cases t1 : x1 / 64 = 2
  case neg =>
    have q1 : (x1 / 64 != 2) = true := by simpa using t1
    have hpp : Hid (badG = p) := by have := hp.out; rw [if_neg t1] at this; exact this
    clear t1
    rw [rounds_succ]
    go_wp2
    go_ret2
    exact ⟨by rw [← hpp.out]; rfl, rfl⟩
  have q1 : (x1 / 64 != 2) = false := by simpa using t1
  have T1 := Lib.hid t1
  clear t1
  rw [rounds_succ]
  go_wp2
  by_cases t2 : x2 / 64 = 2
  case neg =>
    have q2 : (x2 / 64 != 2) = true := by simpa using t2
    have hpp : Hid (badG = p) := by have := hp.out; rw [if_pos T1.out] at this; rw [if_neg t2] at this; exact this
    clear t2
    rw [rounds_succ]
    go_wp2
    go_ret2
    exact ⟨by rw [← hpp.out]; rfl, rfl⟩
  have q2 : (x2 / 64 != 2) = false := by simpa using t2
  have T2 := Lib.hid t2
  clear t2
  rw [rounds_succ]
  go_wp2
  rw [rounds_succ]
  go_wp2_with fail
  have hpp : Hid (finG 3 ((x0 % 16 * 64 + x1 % 64) * 64 + x2 % 64) = p) := by have := hp.out; rw [if_pos T1.out] at this; rw [if_pos T2.out] at this; exact this
  refine (codeSize_any _ _).mono ?_
  rintro e w' ⟨rfl, rfl⟩
  unfold finG at hpp
  generalize sizeI ((x0 % 16 * 64 + x1 % 64) * 64 + x2 % 64) = sz at *
  by_cases hs : sz = 3
  · have hpq : Hid ((((x0 % 16 * 64 + x1 % 64) * 64 + x2 % 64, 3) : Int × Int) = p) := by have := hpp.out; rw [if_pos hs] at this; exact this
    subst hs
    go_wp2
    go_ret2
    exact ⟨by rw [← hpq.out]; rfl, rfl⟩
  · have hsb : (sz != 3) = true := by simpa using hs
    have hpq : Hid (badG = p) := by have := hpp.out; rw [if_neg hs] at this; exact this
    go_wp2
    go_ret2
    exact ⟨by rw [← hpq.out]; rfl, rfl⟩

set_option maxHeartbeats 2000000 in
theorem codeGet_4 (x0 x1 x2 x3 : Int) (b off n c : Nat) (w : World) (h0 : 240 ≤ x0) (h1 : x0 < 245) (l1 : 0 ≤ x1) (u1 : x1 < 256) (l2 : 0 ≤ x2) (u2 : x2 < 256) (l3 : 0 ≤ x3) (u3 : x3 < 256)
    (d0 : w.cell? ⟨b, off, none⟩ = some (.int .u8 x0)) (d1 : w.cell? ⟨b, off + 1, none⟩ = some (.int .u8 x1)) (d2 : w.cell? ⟨b, off + 2, none⟩ = some (.int .u8 x2)) (d3 : w.cell? ⟨b, off + 3, none⟩ = some (.int .u8 x3)) (hn : 4 ≤ n) (hc : n ≤ c) (hn2 : n ≤ 1000000) (p : Int × Int)
    (hp : Hid ((if x1 / 64 = 2 then if x2 / 64 = 2 then if x3 / 64 = 2 then finG 4 (((x0 % 8 * 64 + x1 % 64) * 64 + x2 % 64) * 64 + x3 % 64) else badG else badG else badG) = p)) :
    Calls Try.prog 38 #[.slice (some ⟨b, off, none⟩) n c] w (GetTo p w) := by
  have hle := length_any x0
  rw [show lenB x0 = 4 by unfold lenB; rw [if_neg (by omega), if_neg (by omega), if_neg (by omega), if_pos ⟨h0, h1⟩]] at hle
  have HL := Lib.hid hle
  have m0 := i64_mask 3 (by omega) x0 7 (by omega) (by omega) rfl
  have m1 := u8_mask x1 l1 u1
  have m2 := u8_mask x2 l2 u2
  have m3 := u8_mask x3 l3 u3
  have d2' : w.cell? ⟨b, off + 1 + 1, none⟩ = some (.int .u8 x2) := by rw [Nat.add_assoc]; exact d2
  have d3' : w.cell? ⟨b, off + 1 + 2, none⟩ = some (.int .u8 x3) := by rw [Nat.add_assoc]; exact d3
  have hn0 : ((n : Int) == 0) = false := by simp; omega
  have hc1 : ¬ c = 1 := by omega
  have o1 := or_six (x0 % 8) (x1 % 64) (by omega) (by omega) (by omega) (by omega)
  have o2 := or_six (x0 % 8 * 64 + x1 % 64) (x2 % 64) (by omega) (by omega) (by omega) (by omega)
  have o3 := or_six ((x0 % 8 * 64 + x1 % 64) * 64 + x2 % 64) (x3 % 64) (by omega) (by omega) (by omega) (by omega)
  clear hle
  go_enter Try.func38, Try.ntmps38
  go_wp2_with (go_at_call 47; refine (HL.out _).mono ?_; rintro e w' ⟨rfl, rfl⟩)
  refine wp_loop_rounds 4 ?_
  by_cases t1 : x1 / 64 = 2
  case neg =>
    have q1 : (x1 / 64 != 2) = true := by simpa using t1
    have hpp : Hid (badG = p) := by have := hp.out; rw [if_neg t1] at this; exact this
    clear t1
    rw [rounds_succ]
    go_wp2
    go_ret2
    exact ⟨by rw [← hpp.out]; rfl, rfl⟩
  have q1 : (x1 / 64 != 2) = false := by simpa using t1
  have T1 := Lib.hid t1
  clear t1
  rw [rounds_succ]
  go_wp2
  by_cases t2 : x2 / 64 = 2
  case neg =>
    have q2 : (x2 / 64 != 2) = true := by simpa using t2
    have hpp : Hid (badG = p) := by have := hp.out; rw [if_pos T1.out] at this; rw [if_neg t2] at this; exact this
    clear t2
    rw [rounds_succ]
    go_wp2
    go_ret2
    exact ⟨by rw [← hpp.out]; rfl, rfl⟩
  have q2 : (x2 / 64 != 2) = false := by simpa using t2
  have T2 := Lib.hid t2
  clear t2
  rw [rounds_succ]
  go_wp2
  by_cases t3 : x3 / 64 = 2
  case neg =>
    have q3 : (x3 / 64 != 2) = true := by simpa using t3
    have hpp : Hid (badG = p) := by have := hp.out; rw [if_pos T1.out] at this; rw [if_pos T2.out] at this; rw [if_neg t3] at this; exact this
    clear t3
    rw [rounds_succ]
    go_wp2
    go_ret2
    exact ⟨by rw [← hpp.out]; rfl, rfl⟩
  have q3 : (x3 / 64 != 2) = false := by simpa using t3
  have T3 := Lib.hid t3
  clear t3
  rw [rounds_succ]
  go_wp2
  rw [rounds_succ]
  go_wp2_with fail
  have hpp : Hid (finG 4 (((x0 % 8 * 64 + x1 % 64) * 64 + x2 % 64) * 64 + x3 % 64) = p) := by have := hp.out; rw [if_pos T1.out] at this; rw [if_pos T2.out] at this; rw [if_pos T3.out] at this; exact this
  refine (codeSize_any _ _).mono ?_
  rintro e w' ⟨rfl, rfl⟩
  unfold finG at hpp
  generalize sizeI (((x0 % 8 * 64 + x1 % 64) * 64 + x2 % 64) * 64 + x3 % 64) = sz at *
  by_cases hs : sz = 4
  · have hpq : Hid (((((x0 % 8 * 64 + x1 % 64) * 64 + x2 % 64) * 64 + x3 % 64, 4) : Int × Int) = p) := by have := hpp.out; rw [if_pos hs] at this; exact this
    subst hs
    go_wp2
    go_ret2
    exact ⟨by rw [← hpq.out]; rfl, rfl⟩
  · have hsb : (sz != 4) = true := by simpa using hs
    have hpq : Hid (badG = p) := by have := hpp.out; rw [if_neg hs] at this; exact this
    go_wp2
    go_ret2
    exact ⟨by rw [← hpq.out]; rfl, rfl⟩

set_option maxHeartbeats 1000000 in
theorem codeGet_1 (x0 : Int) (b off n c : Nat) (w : World) (l0 : 0 ≤ x0) (h1 : x0 < 128)
    (d0 : w.cell? ⟨b, off, none⟩ = some (.int .u8 x0)) (hn : 1 ≤ n) (hc : n ≤ c) (hn2 : n ≤ 1000000) :
    Calls Try.prog 38 #[.slice (some ⟨b, off, none⟩) n c] w (GetTo (x0, 1) w) := by
  have hle := length_any x0
  rw [show lenB x0 = 1 by unfold lenB; rw [if_pos h1]] at hle
  have HL := Lib.hid hle
  have hsz := codeSize_any x0
  rw [sizeI_1 (isB_true.2 (by omega)) h1] at hsz
  have HS := Lib.hid hsz
  have hn0 : ((n : Int) == 0) = false := by simp; omega
  clear hle hsz
  by_cases hc1 : c = 1
  all_goals
    go_enter Try.func38, Try.ntmps38
    go_wp2_with (go_at_call 47; refine (HL.out _).mono ?_; rintro e w' ⟨rfl, rfl⟩)
    refine wp_loop_rounds 1 ?_
    rw [rounds_succ]
    go_wp2_with fail
    refine (HS.out _).mono ?_
    rintro e w' ⟨rfl, rfl⟩
    go_wp2
    go_ret2
    exact ⟨rfl, rfl⟩

set_option maxHeartbeats 1000000 in
theorem codeGet_0 (x0 : Int) (b off n c : Nat) (w : World) (hl : lenB x0 = 0)
    (d0 : w.cell? ⟨b, off, none⟩ = some (.int .u8 x0)) (hn : 1 ≤ n) (hc : n ≤ c) (hn2 : n ≤ 1000000) :
    Calls Try.prog 38 #[.slice (some ⟨b, off, none⟩) n c] w (GetTo badG w) := by
  have hle := length_any x0
  rw [hl] at hle
  have HL := Lib.hid hle
  have hn0 : ((n : Int) == 0) = false := by simp; omega
  clear hle hl
  go_enter Try.func38, Try.ntmps38
  go_wp2_with (go_at_call 47; refine (HL.out _).mono ?_; rintro e w' ⟨rfl, rfl⟩)
  go_ret2
  exact ⟨rfl, rfl⟩

set_option maxHeartbeats 1000000 in
theorem codeGet_short (x0 k : Int) (b off n c : Nat) (w : World) (hl : lenB x0 = k) (hk : (n : Int) < k) (hk4 : k ≤ 4)
    (d0 : w.cell? ⟨b, off, none⟩ = some (.int .u8 x0)) (hn : 1 ≤ n) (hc : n ≤ c) (hn2 : n ≤ 1000000) :
    Calls Try.prog 38 #[.slice (some ⟨b, off, none⟩) n c] w (GetTo badG w) := by
  have hle := length_any x0
  rw [hl] at hle
  have HL := Lib.hid hle
  have hn0 : ((n : Int) == 0) = false := by simp; omega
  have hk0 : (k == 0) = false := by simp; omega
  clear hle hl
  go_enter Try.func38, Try.ntmps38
  go_wp2_with (go_at_call 47; refine (HL.out _).mono ?_; rintro e w' ⟨rfl, rfl⟩)
  go_ret2
  exact ⟨rfl, rfl⟩

set_option maxHeartbeats 400000 in
theorem codeGet_nil (A : Option Addr) (c : Nat) (w : World) :
    Calls Try.prog 38 #[.slice A 0 c] w (GetTo (65533, 0) w) := by
  go_enter Try.func38, Try.ntmps38
  go_wp2
  go_ret2
  exact ⟨rfl, rfl⟩

theorem getP_one (c0 : UInt8) (rest : List UInt8) (h : lenB (c0.toNat : Int) = 1) : getP (c0 :: rest) = ((c0.toNat : Int), 1) := by
  unfold getP
  dsimp only
  rw [if_pos h]
theorem getP_zero (c0 : UInt8) (rest : List UInt8) (h : lenB (c0.toNat : Int) = 0) : getP (c0 :: rest) = badG := by
  unfold getP
  dsimp only
  rw [if_neg (by omega), if_neg (by omega), if_neg (by omega), if_neg (by omega)]
theorem getP_2 (c0 c1 : UInt8) (rest : List UInt8) (h : lenB (c0.toNat : Int) = 2) : getP (c0 :: c1 :: rest) = (if cont c1 then finG 2 ((c0.toNat : Int) % 32 * 64 + low c1) else badG) := by
  unfold getP
  dsimp only
  rw [if_neg (by omega), if_pos h]
theorem getP_2s1 (c0 : UInt8) (h : lenB (c0.toNat : Int) = 2) : getP [c0] = badG := by
  unfold getP
  dsimp only
  rw [if_neg (by omega), if_pos h]
theorem getP_3 (c0 c1 c2 : UInt8) (rest : List UInt8) (h : lenB (c0.toNat : Int) = 3) : getP (c0 :: c1 :: c2 :: rest) = (if cont c1 then if cont c2 then finG 3 (((c0.toNat : Int) % 16 * 64 + low c1) * 64 + low c2) else badG else badG) := by
  unfold getP
  dsimp only
  rw [if_neg (by omega), if_neg (by omega), if_pos h]
theorem getP_3s1 (c0 : UInt8) (h : lenB (c0.toNat : Int) = 3) : getP [c0] = badG := by
  unfold getP
  dsimp only
  rw [if_neg (by omega), if_neg (by omega), if_pos h]
theorem getP_3s2 (c0 c1 : UInt8) (h : lenB (c0.toNat : Int) = 3) : getP [c0, c1] = badG := by
  unfold getP
  dsimp only
  rw [if_neg (by omega), if_neg (by omega), if_pos h]
theorem getP_4 (c0 c1 c2 c3 : UInt8) (rest : List UInt8) (h : lenB (c0.toNat : Int) = 4) : getP (c0 :: c1 :: c2 :: c3 :: rest) = (if cont c1 then if cont c2 then if cont c3 then finG 4 ((((c0.toNat : Int) % 8 * 64 + low c1) * 64 + low c2) * 64 + low c3) else badG else badG else badG) := by
  unfold getP
  dsimp only
  rw [if_neg (by omega), if_neg (by omega), if_neg (by omega), if_pos h]
theorem getP_4s1 (c0 : UInt8) (h : lenB (c0.toNat : Int) = 4) : getP [c0] = badG := by
  unfold getP
  dsimp only
  rw [if_neg (by omega), if_neg (by omega), if_neg (by omega), if_pos h]
theorem getP_4s2 (c0 c1 : UInt8) (h : lenB (c0.toNat : Int) = 4) : getP [c0, c1] = badG := by
  unfold getP
  dsimp only
  rw [if_neg (by omega), if_neg (by omega), if_neg (by omega), if_pos h]
theorem getP_4s3 (c0 c1 c2 : UInt8) (h : lenB (c0.toNat : Int) = 4) : getP [c0, c1, c2] = badG := by
  unfold getP
  dsimp only
  rw [if_neg (by omega), if_neg (by omega), if_neg (by omega), if_pos h]
theorem codeGet_any (bs : List UInt8) (A : Option Addr) (n c B : Nat) (w : World) (hr : Rd w B 1 A n (bs.map bV)) (hc : n ≤ c) (hn2 : n ≤ 1000000) :
    Calls Try.prog 38 #[.slice A n c] w (GetTo (getP bs) w) := by
  have hl : bs.length = n := by simpa using hr.1
  rcases Nat.eq_zero_or_pos n with h0 | h0
  · subst h0
    obtain rfl : bs = [] := List.eq_nil_of_length_eq_zero hl
    exact codeGet_nil A c w
  · obtain ⟨b, off, rfl, hb, hcell⟩ := Rd.byte hr h0
    have lt : ∀ c : UInt8, (0 : Int) ≤ (c.toNat : Int) ∧ (c.toNat : Int) < 256 := fun c => ⟨by omega, by have := c.toNat_lt; omega⟩
    obtain ⟨c0, rest, rfl⟩ : ∃ c0 rest, bs = c0 :: rest := by
      cases bs with
      | nil => simp at hl; omega
      | cons c0 rest => exact ⟨c0, rest, rfl⟩
    have d0 : w.cell? ⟨b, off, none⟩ = some (.int .u8 (c0.toNat : Int)) := hcell 0 (by simp)
    rcases lenB_cases (c0.toNat : Int) with ⟨h1, h⟩ | ⟨h1, h2, h⟩ | ⟨h1, h2, h⟩ | ⟨h1, h2, h⟩ | ⟨h1, h2, h⟩ | ⟨h1, h⟩
    · have := codeGet_1 _ b off n c w (lt c0).1 h1 d0 h0 hc hn2
      rwa [getP_one c0 rest h]
    · have := codeGet_0 _ b off n c w h d0 h0 hc hn2
      rwa [getP_zero c0 rest h]
    · rcases rest with _ | ⟨c1, rest⟩
      · have := codeGet_short _ 2 b off n c w h (by simp at hl; omega) (by omega) d0 h0 hc hn2
        rwa [getP_2s1 c0 h]
      · have d1 := hcell 1 (by simp)
        refine codeGet_2 _ (c1.toNat : Int) b off n c w h1 h2 (lt c1).1 (lt c1).2 d0 d1 (by simp at hl; omega) hc hn2 _ ?_
        unfold Hid
        rw [getP_2 c0 c1 rest h]
        rfl
    · rcases rest with _ | ⟨c1, _ | ⟨c2, rest⟩⟩
      · have := codeGet_short _ 3 b off n c w h (by simp at hl; omega) (by omega) d0 h0 hc hn2
        rwa [getP_3s1 c0 h]
      · have := codeGet_short _ 3 b off n c w h (by simp at hl; omega) (by omega) d0 h0 hc hn2
        rwa [getP_3s2 c0 c1 h]
      · have d1 := hcell 1 (by simp)
        have d2 := hcell 2 (by simp)
        refine codeGet_3 _ (c1.toNat : Int) (c2.toNat : Int) b off n c w h1 h2 (lt c1).1 (lt c1).2 (lt c2).1 (lt c2).2 d0 d1 d2 (by simp at hl; omega) hc hn2 _ ?_
        unfold Hid
        rw [getP_3 c0 c1 c2 rest h]
        rfl
    · rcases rest with _ | ⟨c1, _ | ⟨c2, _ | ⟨c3, rest⟩⟩⟩
      · have := codeGet_short _ 4 b off n c w h (by simp at hl; omega) (by omega) d0 h0 hc hn2
        rwa [getP_4s1 c0 h]
      · have := codeGet_short _ 4 b off n c w h (by simp at hl; omega) (by omega) d0 h0 hc hn2
        rwa [getP_4s2 c0 c1 h]
      · have := codeGet_short _ 4 b off n c w h (by simp at hl; omega) (by omega) d0 h0 hc hn2
        rwa [getP_4s3 c0 c1 c2 h]
      · have d1 := hcell 1 (by simp)
        have d2 := hcell 2 (by simp)
        have d3 := hcell 3 (by simp)
        refine codeGet_4 _ (c1.toNat : Int) (c2.toNat : Int) (c3.toNat : Int) b off n c w h1 h2 (lt c1).1 (lt c1).2 (lt c2).1 (lt c2).2 (lt c3).1 (lt c3).2 d0 d1 d2 d3 (by simp at hl; omega) hc hn2 _ ?_
        unfold Hid
        rw [getP_4 c0 c1 c2 c3 rest h]
        rfl
    · have := codeGet_0 _ b off n c w h d0 h0 hc hn2
      rwa [getP_zero c0 rest h]
end Go.Proofs.Ytoagjhhdijebmaa
