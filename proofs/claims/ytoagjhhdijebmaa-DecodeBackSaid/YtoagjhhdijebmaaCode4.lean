/-
  Contracts of reedbedref01.Ints, of Units in both packages, and of the law's example awake; no condition beyond those that each theorem states.
-/
import Derived.Test.YtoagjhhdijebmaaCode3
namespace Go.Proofs.Ytoagjhhdijebmaa
open Go.RowKit Go.Rb

def iV (z : Int) : Value := .int .i64 z

theorem ints_at {xs ys : List Int} (k : Nat) (hk : k < xs.length) (hl : xs.length = ys.length) (hp : xs.take k = ys.take k) :
    (xs[k] = ys[k]'(by omega) → xs.take (k + 1) = ys.take (k + 1)) ∧ (xs[k] ≠ ys[k]'(by omega) → xs ≠ ys) := by
  constructor
  · intro h
    rw [List.take_succ_eq_append_getElem hk, List.take_succ_eq_append_getElem (by omega), hp, h]
  · rintro h rfl
    exact h rfl

/-- The units of a code point. -/
def unitsV (r : Int) : List Int := if r < 65536 then [r] else [55296 + (r - 65536) / 1024, 56320 + (r - 65536) % 1024]
def unitsL (r : Int) : List Int := unitsV (if isB r = true then r else 65533)
def NewI (w w' : World) (v : Value) (zs : List Int) : Prop :=
  Own w' 3 1 v zs.length (zs.map iV) ∧ Below w.heap.size w w' ∧ ∀ k, v.ownBlock = some k → w.heap.size ≤ k
def RetNewI (w : World) (zs : List Int) (e : Ending) (w' : World) : Prop := ∃ v, e = .returned v ∧ NewI w w' v zs

theorem newI_1 (w : World) (z : Int) : NewI w (w.alloc (.cells #[.int .i64 z] 3)) (.slice (some ⟨w.heap.size, 0, none⟩) 1 1) [z] :=
  ⟨by have := Own.lit w 3 1 1 #[.int .i64 z] rfl (by decide); simpa [iV] using this, below_al (Below.refl _ _) _, by simp [Value.ownBlock]⟩
theorem newI_2 (w : World) (z y : Int) : NewI w (w.alloc (.cells #[.int .i64 z, .int .i64 y] 3)) (.slice (some ⟨w.heap.size, 0, none⟩) 2 2) [z, y] :=
  ⟨by have := Own.lit w 3 1 2 #[.int .i64 z, .int .i64 y] rfl (by decide); simpa [iV] using this, below_al (Below.refl _ _) _, by simp [Value.ownBlock]⟩

theorem unitsL_wrong {r : Int} (h : isB r = false) : unitsL r = [65533] := by simp [unitsL, unitsV, h]
theorem unitsL_lo {r : Int} (h : isB r = true) (h1 : r < 65536) : unitsL r = [r] := by simp [unitsL, unitsV, h, h1]
theorem unitsL_hi {r : Int} (h : isB r = true) (h1 : ¬ r < 65536) : unitsL r = [55296 + (r - 65536) / 1024, 56320 + (r - 65536) % 1024] := by simp [unitsL, unitsV, h, h1]

set_option maxHeartbeats 400000 in
theorem refUnits_any (r : Int) (w : World) : Calls Try.prog 25 #[.int .i64 r] w (RetNewI w (unitsL r)) := by
  have hc := refIs_any r
  cases hb : isB r
  · rw [unitsL_wrong hb]
    rw [hb] at hc
    have HC := Lib.hid hc
    clear hc hb
    go_enter Try.func25, Try.ntmps25
    go_wp2_with (go_at_call 22; refine (HC.out _).mono ?_; rintro e w' ⟨rfl, rfl⟩)
    go_ret
    exact ⟨_, rfl, newI_1 w 65533⟩
  · have hr := isB_true.1 hb
    by_cases h : r < 65536
    · rw [unitsL_lo hb h]
      rw [hb] at hc
      have HC := Lib.hid hc
      clear hc hb
      go_enter Try.func25, Try.ntmps25
      go_wp2_with (go_at_call 22; refine (HC.out _).mono ?_; rintro e w' ⟨rfl, rfl⟩)
      go_ret
      exact ⟨_, rfl, newI_1 w r⟩
    · rw [unitsL_hi hb h]
      rw [hb] at hc
      have HC := Lib.hid hc
      clear hc hb
      go_enter Try.func25, Try.ntmps25
      go_wp2_with (go_at_call 22; refine (HC.out _).mono ?_; rintro e w' ⟨rfl, rfl⟩)
      go_ret
      exact ⟨_, rfl, newI_2 w _ _⟩

theorem or_units (x : Int) (h0 : 0 ≤ x) (h1 : x < 1024) : bits .or .i64 55296 x = 55296 + x ∧ bits .or .i64 56320 x = 56320 + x := by
  obtain ⟨n, rfl⟩ := Int.eq_ofNat_of_zero_le h0
  have : ∀ n, n < 1024 → bits .or .i64 55296 (n : Nat) = 55296 + ((n : Nat) : Int) ∧ bits .or .i64 56320 (n : Nat) = 56320 + ((n : Nat) : Int) := by decide +kernel
  exact this n (by omega)

end Go.Proofs.Ytoagjhhdijebmaa
