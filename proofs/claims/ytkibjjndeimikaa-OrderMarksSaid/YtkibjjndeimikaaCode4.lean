/-
  Contracts of reedbedref01.Ints, of Units in both packages, and of the law's example awake; no condition beyond those that each theorem states.
-/
import Derived.Test.YtkibjjndeimikaaCode3
namespace Go.Proofs.Ytkibjjndeimikaa
open Go.RowKit Go.Rb

def iV (z : Int) : Value := .int .i64 z

theorem ints_at {xs ys : List Int} (k : Nat) (hk : k < xs.length) (hl : xs.length = ys.length) (hp : xs.take k = ys.take k) :
    (xs[k] = ys[k]'(by omega) → xs.take (k + 1) = ys.take (k + 1)) ∧ (xs[k] ≠ ys[k]'(by omega) → xs ≠ ys) := by
  constructor
  · intro h
    rw [List.take_succ_eq_append_getElem hk, List.take_succ_eq_append_getElem (by omega), hp, h]
  · rintro h rfl
    exact h rfl

set_option maxHeartbeats 1000000 in
theorem ints_any (A B : Option Addr) (n m cA cB : Nat) (xs ys : List Int) (w : World) (b1 b2 : Nat) (hx : Rd w b1 1 A n (xs.map iV)) (hy : Rd w b2 1 B m (ys.map iV)) (hn : n ≤ 1000000) (hm : m ≤ 1000000) :
    Calls Try.prog 12 #[.slice A n cA, .slice B m cB] w fun e w' => e = .returned (.bool (decide (xs = ys))) ∧ ∃ q, w' = w.drewN q := by
  have hxl : xs.length = n := by simpa using hx.1
  have hyl : ys.length = m := by simpa using hy.1
  by_cases hnm : n = m
  · subst hnm
    go_enter Try.func12, Try.ntmps12
    go_wp2
    go_loopw [5] (fun i wr => ∃ k : Nat, k ≤ n ∧ i = .int .i64 k ∧ Hid (xs.take k = ys.take k) ∧ ∃ q, wr = w.drewN q) (fun i _ => n - (intOf i).toNat)
    case atStart => exact ⟨0, by omega, rfl, rfl, 0, rfl⟩
    case round =>
      obtain ⟨k, hk, rfl, hp, q, rfl⟩ := hrel
      by_cases hlt : k < n
      · obtain ⟨bx, ox, rfl, hbx, hcx⟩ := hx.2 (by omega)
        obtain ⟨b_y, o_y, rfl, hby, hcy⟩ := hy.2 (by omega)
        have h1 := hcx k (by omega)
        have h2 := hcy k (by omega)
        have ht := ints_at k (by omega) (by omega) hp.out
        rw [List.getElem?_map, List.getElem?_eq_getElem (by omega)] at h1 h2
        simp only [Option.map_some, iV] at h1 h2
        generalize xs[k]'(by omega) = x at *
        generalize ys[k]'(by omega) = y at *
        have i1 : (k : Int) < (n : Int) := by omega
        have i2 : (0 : Int) ≤ (k : Int) := by omega
        clear hcx hcy
        by_cases hxy : x = y
        · have HT := Lib.hid (ht.1 hxy)
          subst hxy
          clear ht
          go_wp2_with fail
          go_quiet (fail)
          go_wp2
          go_roundw
          case rel => exact ⟨k + 1, by omega, by go_num, HT.out, q + nq, by simp⟩
          case measure => simp [intOf]; omega
        · have HT := Lib.hid (ht.2 hxy)
          have hb : (x != y) = true := by simpa using hxy
          clear ht
          go_wp2_with fail
          go_quiet (fail)
          go_wp2
          go_ret
          exact ⟨by rw [decide_eq_false HT.out]; rfl, q + nq, by simp⟩
      · have HT : Hid (xs = ys) := by
          have := hp.out
          rwa [List.take_of_length_le (by omega), List.take_of_length_le (by omega)] at this
        go_wp2
        go_ret
        exact ⟨by rw [decide_eq_true HT.out]; rfl, _, rfl⟩
  · have HT : Hid (xs ≠ ys) := by rintro rfl; omega
    have hb : ((n : Int) != (m : Int)) = true := by simp; omega
    go_enter Try.func12, Try.ntmps12
    go_wp2
    go_ret
    exact ⟨by rw [decide_eq_false HT.out]; rfl, 0, rfl⟩

/-- The units of a code point. -/
def unitsV (r : Int) : List Int := if r < 65536 then [r] else [55296 + (r - 65536) / 1024, 56320 + (r - 65536) % 1024]
def unitsL (r : Int) : List Int := unitsV (if isB r = true then r else 65533)
def NewI (w w' : World) (v : Value) (zs : List Int) : Prop :=
  Own w' 3 1 v zs.length (zs.map iV) ∧ Below w.heap.size w w' ∧ ∀ k, v.ownBlock = some k → w.heap.size ≤ k
def RetNewI (w : World) (zs : List Int) (e : Ending) (w' : World) : Prop := ∃ v, e = .returned v ∧ NewI w w' v zs

theorem newI_1 (w : World) (z : Int) : NewI w (w.alloc (.cells #[.int .i64 z] 3)) (.slice (some ⟨w.heap.size, 0, none⟩) 1 1) [z] :=
  ⟨by have := Own.lit w 3 1 1 #[.int .i64 z] rfl (by decide); simpa [iV] using this, below_al (Below.refl _ _) _, by simp [Value.ownBlock]⟩
theorem newI_2 (w : World) (z y : Int) : NewI w (w.alloc (.cells #[.int .i64 z, .int .i64 y] 3)) (.slice (some ⟨w.heap.size, 0, none⟩) 2 2) [z, y] :=
  ⟨by have := Own.lit w 3 1 2 #[.int .i64 z, .int .i64 y] rfl (by decide); simpa [iV] using this, below_al (Below.refl _ _) _, by simp [Value.ownBlock]⟩

theorem unitsL_wrong {r : Int} (h : isB r = false) : unitsL r = [65533] := by simp [unitsL, unitsV, h]
theorem unitsL_lo {r : Int} (h : isB r = true) (h1 : r < 65536) : unitsL r = [r] := by simp [unitsL, unitsV, h, h1]
theorem unitsL_hi {r : Int} (h : isB r = true) (h1 : ¬ r < 65536) : unitsL r = [55296 + (r - 65536) / 1024, 56320 + (r - 65536) % 1024] := by simp [unitsL, unitsV, h, h1]

set_option maxHeartbeats 400000 in
theorem refUnits_any (r : Int) (w : World) : Calls Try.prog 22 #[.int .i64 r] w (RetNewI w (unitsL r)) := by
  have hc := refIs_any r
  cases hb : isB r
  · rw [unitsL_wrong hb]
    rw [hb] at hc
    have HC := Lib.hid hc
    clear hc hb
    go_enter Try.func22, Try.ntmps22
    go_wp2_with (go_at_call 30; refine (HC.out _).mono ?_; rintro e w' ⟨rfl, rfl⟩)
    go_ret
    exact ⟨_, rfl, newI_1 w 65533⟩
  · have hr := isB_true.1 hb
    by_cases h : r < 65536
    · rw [unitsL_lo hb h]
      rw [hb] at hc
      have HC := Lib.hid hc
      clear hc hb
      go_enter Try.func22, Try.ntmps22
      go_wp2_with (go_at_call 30; refine (HC.out _).mono ?_; rintro e w' ⟨rfl, rfl⟩)
      go_ret
      exact ⟨_, rfl, newI_1 w r⟩
    · rw [unitsL_hi hb h]
      rw [hb] at hc
      have HC := Lib.hid hc
      clear hc hb
      go_enter Try.func22, Try.ntmps22
      go_wp2_with (go_at_call 30; refine (HC.out _).mono ?_; rintro e w' ⟨rfl, rfl⟩)
      go_ret
      exact ⟨_, rfl, newI_2 w _ _⟩

theorem or_units (x : Int) (h0 : 0 ≤ x) (h1 : x < 1024) : bits .or .i64 55296 x = 55296 + x ∧ bits .or .i64 56320 x = 56320 + x := by
  obtain ⟨n, rfl⟩ := Int.eq_ofNat_of_zero_le h0
  have : ∀ n, n < 1024 → bits .or .i64 55296 (n : Nat) = 55296 + ((n : Nat) : Int) ∧ bits .or .i64 56320 (n : Nat) = 56320 + ((n : Nat) : Int) := by decide +kernel
  exact this n (by omega)

set_option maxHeartbeats 400000 in
theorem codeUnits_any (r : Int) (w : World) : Calls Try.prog 20 #[.int .i64 r] w (RetNewI w (unitsL r)) := by
  have hc := codeIs_any r
  cases hb : isB r
  · rw [unitsL_wrong hb]
    rw [hb] at hc
    have HC := Lib.hid hc
    clear hc hb
    go_enter Try.func20, Try.ntmps20
    go_wp2_with (go_at_call 28; refine (HC.out _).mono ?_; rintro e w' ⟨rfl, rfl⟩)
    go_ret
    exact ⟨_, rfl, newI_1 w 65533⟩
  · have hr := isB_true.1 hb
    by_cases h : r < 65536
    · rw [unitsL_lo hb h]
      rw [hb] at hc
      have HC := Lib.hid hc
      clear hc hb
      go_enter Try.func20, Try.ntmps20
      go_wp2_with (go_at_call 28; refine (HC.out _).mono ?_; rintro e w' ⟨rfl, rfl⟩)
      go_ret
      exact ⟨_, rfl, newI_1 w r⟩
    · rw [unitsL_hi hb h]
      rw [hb] at hc
      have HC := Lib.hid hc
      clear hc hb
      go_enter Try.func20, Try.ntmps20
      go_wp2_with (go_at_call 28; refine (HC.out _).mono ?_; rintro e w' ⟨rfl, rfl⟩)
      go_ret
      have e1 := (or_units ((r - 65536) / 1024) (by omega) (by omega)).1
      have e2 := i64_mask 10 (by omega) (r - 65536) 1023 (by omega) (by omega) rfl
      have e3 := (or_units ((r - 65536) % 1024) (by omega) (by omega)).2
      rw [e1, show bits .and .i64 (r - 65536) 1023 = (r - 65536) % 1024 from e2, e3]
      exact ⟨_, rfl, newI_2 w _ _⟩
end Go.Proofs.Ytkibjjndeimikaa
