/-
  The contracts of order's functions two and Octets; no condition beyond those that each theorem states.
-/
import Derived.Test.YtoagjhhdijebmaaCode5
namespace Go.Proofs.Ytoagjhhdijebmaa
open Go.RowKit Go.Rb
attribute [local irreducible] Go.wpQuiet

def twoP (k : Int) : Bool := decide (k = 2) || decide (k = 3)
set_option maxHeartbeats 1000000 in
theorem two_any (k : Int) (w : World) : Calls Try.prog 46 #[.int .i64 k] w fun e w' => e = .returned (.bool (twoP k)) ∧ w = w' := by
  unfold twoP
  by_cases h2 : k = 2
  · subst h2
    go_enter Try.func46, Try.ntmps46
    go_wp2
    go_ret
    exact ⟨rfl, rfl⟩
  · have i1 : (k == 2) = false := by rw [beq_eq_false_iff_ne]; exact h2
    by_cases h3 : k = 3
    · subst h3
      go_enter Try.func46, Try.ntmps46
      go_wp2
      go_ret
      exact ⟨rfl, rfl⟩
    · have i2 : (k == 3) = false := by rw [beq_eq_false_iff_ne]; exact h3
      go_enter Try.func46, Try.ntmps46
      go_wp2
      go_ret
      exact ⟨by rw [decide_eq_false h2, decide_eq_false h3]; rfl, rfl⟩

/-- The octets of a unit: the lower one, the upper one. -/
def loU (u : Int) : Int := u % 65536 % 256
def hiU (u : Int) : Int := u % 65536 / 256
theorem loU_bd (u : Int) : 0 ≤ loU u ∧ loU u < 256 := by unfold loU; omega
theorem hiU_bd (u : Int) : 0 ≤ hiU u ∧ hiU u < 256 := by unfold hiU; omega
def octL (k u : Int) : List UInt8 := if k = 2 then [by_ (loU u), by_ (hiU u)] else if k = 3 then [by_ (hiU u), by_ (loU u)] else []
def octsL (k : Int) (us : List Int) : List UInt8 := us.flatMap (octL k)
theorem octL_len (k u : Int) (h : twoP k = true) : (octL k u).length = 2 := by
  unfold octL
  unfold twoP at h
  simp at h
  rcases h with h | h <;> simp [h]
theorem octsL_len (k : Int) (h : twoP k = true) : ∀ us : List Int, (octsL k us).length = 2 * us.length
  | [] => rfl
  | u :: us => by
    have := octsL_len k h us
    unfold octsL at this ⊢
    rw [List.flatMap_cons, List.length_append, octL_len k u h, this, List.length_cons]; omega
theorem octsL_none (k : Int) (h : twoP k = false) : ∀ us : List Int, octsL k us = []
  | [] => rfl
  | u :: us => by
    have := octsL_none k h us
    unfold octsL at this ⊢
    rw [List.flatMap_cons, this]
    unfold octL
    unfold twoP at h
    simp at h
    rw [if_neg h.1, if_neg h.2]; rfl
theorem octsL_snoc (k : Int) (us : List Int) (u : Int) : octsL k (us ++ [u]) = octsL k us ++ octL k u := by simp [octsL]
theorem wrap16 (u : Int) : IntKind.u16.wrap u = u % 65536 := by
  simp [IntKind.wrap, IntKind.signed, IntKind.bits]
theorem u16_mask (x : Int) (h0 : 0 ≤ x) (h1 : x < 65536) : bits .and .u16 x 255 = x % 256 := by
  obtain ⟨n, rfl⟩ := Int.eq_ofNat_of_zero_le h0
  show IntKind.u16.wrap (((BitVec.ofInt 16 (n : Int) &&& BitVec.ofInt 16 255).toNat : Nat) : Int) = _
  have e : (BitVec.ofInt 16 (n : Int) &&& BitVec.ofInt 16 255).toNat = n % 256 := by
    rw [BitVec.toNat_and, BitVec.ofInt_natCast, BitVec.toNat_ofNat, show (BitVec.ofInt 16 255).toNat = 2 ^ 8 - 1 from rfl, Nat.and_two_pow_sub_one_eq_mod]
    omega
  rw [e, wrap16]
  omega
theorem u16_or (l h : Int) (l0 : 0 ≤ l) (l1 : l < 256) (h0 : 0 ≤ h) (h1 : h < 256) : bits .or .u16 (l * 256) h = l * 256 + h := by
  obtain ⟨a, rfl⟩ := Int.eq_ofNat_of_zero_le l0
  obtain ⟨b, rfl⟩ := Int.eq_ofNat_of_zero_le h0
  show IntKind.u16.wrap (((BitVec.ofInt 16 ((a : Int) * 256) ||| BitVec.ofInt 16 (b : Int)).toNat : Nat) : Int) = _
  have e : ((a : Int) * (256 : Int)) = ((a <<< 8 : Nat) : Int) := by rw [Nat.shiftLeft_eq]; omega
  have hs : a <<< 8 = a * 256 := by rw [Nat.shiftLeft_eq]
  rw [e, BitVec.toNat_or, BitVec.ofInt_natCast, BitVec.ofInt_natCast, BitVec.toNat_ofNat, BitVec.toNat_ofNat, Nat.mod_eq_of_lt (by omega), Nat.mod_eq_of_lt (by omega), ← Nat.shiftLeft_add_eq_or_of_lt (by omega : b < 2 ^ 8), wrap16]
  omega
theorem octL_2 (u : Int) : (octL 2 u).map bV = [.int .u8 (loU u), .int .u8 (hiU u)] := by
  have h1 := loU_bd u
  have h2 := hiU_bd u
  show [bV (by_ (loU u)), bV (by_ (hiU u))] = _
  rw [bV_by _ h1.1 h1.2, bV_by _ h2.1 h2.2]
theorem octL_3 (u : Int) : (octL 3 u).map bV = [.int .u8 (hiU u), .int .u8 (loU u)] := by
  have h1 := loU_bd u
  have h2 := hiU_bd u
  show [bV (by_ (hiU u)), bV (by_ (loU u))] = _
  rw [bV_by _ h1.1 h1.2, bV_by _ h2.1 h2.2]
end Go.Proofs.Ytoagjhhdijebmaa
