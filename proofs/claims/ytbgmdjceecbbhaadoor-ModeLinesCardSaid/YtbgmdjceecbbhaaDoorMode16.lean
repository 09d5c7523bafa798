/-
  The contract of reedbedref18.Digits; no condition beyond those that each theorem states.
-/
import Derived.Test.YtbgmdjceecbbhaaDoorMode15
namespace Go.Proofs.YtbgmdjceecbbhaaDoor
open Go.RowKit Go.Rb
attribute [local irreducible] Go.wpQuiet

def bV (c : UInt8) : Value := .int .u8 (c.toNat : Int)
theorem strOfNums_bytes (bs : List UInt8) : strOfNums (bs.map fun c => (c.toNat : Int)) = ⟨bs.toArray⟩ := by
  unfold strOfNums
  congr 2
  rw [List.map_map]
  conv => rhs; rw [← List.map_id bs]
  apply List.map_congr_left
  intro c _
  simp
/-- string(b) of a slice that reads as octets. -/
theorem conv_rd {W : World} {B n cap : Nat} {A : Option Addr} {bs : List UInt8} (h : Rd W B 1 A n (bs.map bV)) :
    (convert 49 9 (.slice A n cap)).run Tryd.prog W = .ok (.string ⟨bs.toArray⟩) W := by
  have hl : bs.length = n := by simpa using h.1
  rcases Nat.eq_zero_or_pos n with h0 | h0
  · subst h0
    obtain rfl : bs = [] := List.eq_nil_of_length_eq_zero hl
    cases A with
    | none => exact run_convert_bytes_nil W 49 5 Tryd.underlying49 Tryd.underlying5 0 cap 9 Tryd.underlying9
    | some a => exact run_convert_bytes_back W 49 9 5 a cap [] Tryd.underlying49 Tryd.underlying5 Tryd.underlying9 (fun j hj => absurd hj (by simp))
  · obtain ⟨b, off, rfl, _, hc⟩ := h.2 h0
    have := run_convert_bytes_arg (P := Tryd.prog) W 49 5 Tryd.underlying49 Tryd.underlying5 b off n cap (bs.map fun c => (c.toNat : Int)) (by simpa using hl)
      (fun i hi => by
        rw [hc i (by omega), List.getElem?_map, List.getElem?_eq_getElem (by omega)]
        simp [bV, List.getD, List.getElem?_map, List.getElem?_eq_getElem (show i < bs.length by omega)]) 9 Tryd.underlying9
    rw [strOfNums_bytes] at this
    exact this
theorem conv_one (c : UInt8) (x : Int) (hx : x = (c.toNat : Int)) (W : World) : (convert 49 9 (.slice (some ⟨W.heap.size, 0, none⟩) 1 1)).run Tryd.prog (W.alloc (.cells #[.int .u8 x] 5)) = .ok (.string (mk [c])) (W.alloc (.cells #[.int .u8 x] 5)) := by
  subst hx
  exact conv_rd (bs := [c]) (Own.lit W 5 1 1 #[.int .u8 (c.toNat : Int)] rfl (by decide)).rd
set_option maxRecDepth 20000 in
set_option maxHeartbeats 100000 in
theorem dig_one (n : Nat) (hn : n < 10) (w : World) :
    Calls Tryd.prog 11 #[.int .i64 (n : Int)] w fun e w' => e = .returned (.string (mk (Lib.decDigits n))) ∧ Below w.heap.size w w' := by
  have hd := Lib.decDigits_one hn
  rw [hd]
  have F1 : decide ((n : Int) < 0) = false := decide_eq_false (by omega)
  have F2 : decide ((n : Int) < 10) = true := decide_eq_true (by omega)
  have hcv := conv_one (UInt8.ofNat (48 + n)) (48 + (n : Int)) (by rw [UInt8.toNat_ofNat']; rw [Nat.mod_eq_of_lt (by omega)]; omega) w
  generalize UInt8.ofNat (48 + n) = c at *
  clear hd
  go_enter Tryd.func11, Tryd.ntmps11
  go_wp2_with fail
  go_ret
  exact ⟨rfl, below_al (Below.refl _ _) _⟩
theorem digits_len (n : Nat) (hn : n < 10000000000000000000) : (Lib.decDigits n).length ≤ 20 := by
  rw [Lib.decDigits_length]
  have := nDigits_le 19 n (by decide) hn
  omega
set_option maxRecDepth 20000 in
set_option maxHeartbeats 100000 in
theorem dig_nat : ∀ (n : Nat), n ≤ 9223372036854775807 → ∀ (w : World),
    Calls Tryd.prog 11 #[.int .i64 (n : Int)] w fun e w' => e = .returned (.string (mk (Lib.decDigits n))) ∧ Below w.heap.size w w' := by
  intro n
  induction n using Nat.strongRecOn with
  | _ n ih =>
    intro hn w
    by_cases h10 : n < 10
    · exact dig_one n h10 w
    · have hd : Lib.decDigits n = Lib.decDigits (n / 10) ++ Lib.decDigits (n % 10) := by
        rw [Lib.decDigits, dif_neg h10, Lib.decDigits_one (show n % 10 < 10 from Nat.mod_lt _ (by decide))]
      have HQ := Lib.hid (ih (n / 10) (by omega) (by omega))
      have HR := Lib.hid (dig_one (n % 10) (Nat.mod_lt _ (by decide)))
      have hq1 : (mk (Lib.decDigits (n / 10))).size ≤ 20 := digits_len _ (by omega)
      have hq2 : (mk (Lib.decDigits (n % 10))).size ≤ 20 := digits_len _ (by omega)
      have hmk : mk (Lib.decDigits (n / 10)) ++ mk (Lib.decDigits (n % 10)) = mk (Lib.decDigits n) := by rw [mk_append, hd]
      have F1 : decide ((n : Int) < 0) = false := decide_eq_false (by omega)
      have F2 : decide ((n : Int) < 10) = false := decide_eq_false (by omega)
      rw [← hmk]
      generalize mk (Lib.decDigits (n / 10)) = X at *
      generalize mk (Lib.decDigits (n % 10)) = Y at *
      clear hmk hd ih
      go_enter Tryd.func11, Tryd.ntmps11
      go_wp2_with fail
      refine (HQ.out w).mono ?_
      rintro e1 w1 ⟨rfl, hb1⟩
      have HB1 := Lib.hid hb1
      clear hb1
      go_wp2_with fail
      refine (HR.out w1).mono ?_
      rintro e2 w2 ⟨rfl, hb2⟩
      have HB2 := Lib.hid hb2
      clear hb2
      go_wp2_with fail
      go_ret
      exact ⟨rfl, below_trans HB1.out HB2.out⟩
theorem u64_div10 (u : Nat) (hu : u ≤ 9223372036854775808) : IntKind.u64.wrap ((u : Int).tdiv 10) = ((u / 10 : Nat) : Int) := by
  rw [show (u : Int).tdiv 10 = ((u / 10 : Nat) : Int) from (Int.ofNat_tdiv u 10).symm]
  exact IntWalk.u64_in _ ⟨by omega, by omega⟩
theorem u64_mod10 (u : Nat) : IntKind.u64.wrap ((u : Int).tmod 10) = ((u % 10 : Nat) : Int) := by
  rw [show (u : Int).tmod 10 = ((u % 10 : Nat) : Int) from (Int.ofNat_tmod u 10).symm]
  exact IntWalk.u64_in _ ⟨by omega, by omega⟩
theorem u64_nat (q : Nat) (hq : q ≤ 9223372036854775808) : IntKind.u64.wrap (q : Int) = (q : Int) := IntWalk.u64_in _ ⟨by omega, by omega⟩
theorem wrap64_nat (q : Nat) (hq : q ≤ 9223372036854775807) : wrap64 (q : Int) = (q : Int) := by unfold wrap64; omega
set_option maxRecDepth 20000 in
set_option maxHeartbeats 100000 in
theorem dig_neg (n : Int) (h0 : n < 0) (h1 : -9223372036854775808 ≤ n) (w : World) :
    Calls Tryd.prog 11 #[.int .i64 n] w fun e w' => e = .returned (.string (mk (45 :: Lib.decDigits n.natAbs))) ∧ Below w.heap.size w w' := by
  have F1 : decide (n < 0) = true := decide_eq_true h0
  obtain ⟨u, hu⟩ : ∃ u : Nat, n.natAbs = u := ⟨_, rfl⟩
  have E1 : IntKind.u64.wrap (-IntKind.u64.wrap n) = (u : Int) := by rw [IntKind.wrap_u64, IntKind.wrap_u64]; omega
  rw [hu]
  have h45 : (mk [45]).size = 1 := rfl
  have hmk : ∀ l, (⟨#[45]⟩ : ByteArray) ++ mk l = mk (45 :: l) := fun l => mk_append [45] l
  by_cases h10 : u < 10
  · have HD := Lib.hid (dig_one u h10)
    have E2 : wrap64 (u : Int) = (u : Int) := by unfold wrap64; omega
    have F2 : decide ((u : Int) < 10) = true := decide_eq_true (by omega)
    have hs : (mk (Lib.decDigits u)).size ≤ 20 := digits_len _ (by omega)
    rw [← hmk]
    generalize mk (Lib.decDigits u) = X at *
    clear hu h45 hmk
    go_enter Tryd.func11, Tryd.ntmps11
    go_wp2_with fail
    refine (HD.out w).mono ?_
    rintro e1 w1 ⟨rfl, hb1⟩
    have HB1 := Lib.hid hb1
    clear hb1
    go_wp2_with fail
    go_ret
    exact ⟨rfl, HB1.out⟩
  · have hd : Lib.decDigits u = Lib.decDigits (u / 10) ++ Lib.decDigits (u % 10) := by
      rw [Lib.decDigits, dif_neg h10, Lib.decDigits_one (show u % 10 < 10 from Nat.mod_lt _ (by decide))]
    have HQ := Lib.hid (dig_nat (u / 10) (by omega))
    have HR := Lib.hid (dig_one (u % 10) (Nat.mod_lt _ (by decide)))
    have hub : u ≤ 9223372036854775808 := by clear E1 F1; omega
    have hqb : u / 10 ≤ 9223372036854775807 := by clear E1 F1 hu; omega
    have hrb : u % 10 ≤ 9223372036854775807 := by clear E1 F1 hu; omega
    have E3 := u64_div10 u hub
    have E5 := u64_mod10 u
    have E4 := wrap64_nat (u / 10) hqb
    have E9 := wrap64_nat (u % 10) hrb
    have E7 : (u : Int) / 10 = ((u / 10 : Nat) : Int) := rfl
    have E8 : (u : Int) % 10 = ((u % 10 : Nat) : Int) := rfl
    have E10 := u64_nat (u / 10) (Nat.le_trans hqb (by decide))
    have E11 := u64_nat (u % 10) (Nat.le_trans hrb (by decide))
    have F2 : decide ((u : Int) < 10) = false := decide_eq_false (by clear E1 F1 E3 E4 E5 E7 E8 E9 E10 E11 hqb hrb hub; omega)
    have hs1 : (mk (Lib.decDigits (u / 10))).size ≤ 20 := digits_len _ (by clear E1 F1 E3 E4 E5 E7 E8 E9 E10 E11; omega)
    have hs2 : (mk (Lib.decDigits (u % 10))).size ≤ 20 := digits_len _ (by clear E1 F1 E3 E4 E5 E7 E8 E9 E10 E11; omega)
    obtain ⟨q, hq⟩ : ∃ q, u / 10 = q := ⟨_, rfl⟩
    obtain ⟨r, hr⟩ : ∃ q, u % 10 = q := ⟨_, rfl⟩
    have hfin : (⟨#[45]⟩ : ByteArray) ++ mk (Lib.decDigits (u / 10)) ++ mk (Lib.decDigits (u % 10)) = mk (45 :: Lib.decDigits u) := by rw [hmk, mk_append, hd]; rfl
    rw [← hfin]
    rw [hq] at E3 E4 E7 E10 hqb HQ ⊢
    rw [hr] at E5 E9 E8 E11 hrb HR ⊢
    rw [hq] at hs1
    rw [hr] at hs2
    generalize mk (Lib.decDigits q) = X at *
    generalize mk (Lib.decDigits r) = Y at *
    clear hu h45 hmk hfin hd hq hr h10 hqb hrb hub
    go_enter Tryd.func11, Tryd.ntmps11
    go_wp2_with fail
    refine (HQ.out w).mono ?_
    rintro e1 w1 ⟨rfl, hb1⟩
    have HB1 := Lib.hid hb1
    clear hb1
    clear E3 E4 E7 E10 E1 E5
    go_wp2_with fail
    refine (HR.out w1).mono ?_
    rintro e2 w2 ⟨rfl, hb2⟩
    have HB2 := Lib.hid hb2
    clear hb2
    go_wp2_with fail
    go_ret
    exact ⟨rfl, below_trans HB1.out HB2.out⟩
theorem digits_any (n : Int) (hn : I64 n) (w : World) :
    Calls Tryd.prog 11 #[.int .i64 n] w fun e w' => e = .returned (.string (mk (Lib.itoa n))) ∧ Below w.heap.size w w' := by
  unfold I64 at hn
  unfold Lib.itoa
  by_cases h : n < 0
  · rw [if_pos h]; exact dig_neg n h hn.1 w
  · rw [if_neg h]
    have := dig_nat n.toNat (by omega) w
    rw [Int.toNat_of_nonneg (by omega)] at this
    exact this
end Go.Proofs.YtbgmdjceecbbhaaDoor
