/-
  The contract of reedbedref01.Ints, and new slices of numbers; no condition beyond those that each theorem states.
-/
import Derived.Test.YtamgngmbbbegpaaRegion
namespace Go.Proofs.Ytamgngmbbbegpaa
open Go.RowKit Go.Rb

theorem info3 : (Try.prog.info? 3).map (fun i => (i.zero, i.size, i.bytes)) = some (some (.int .i64 0), 1, 8) := by kernel_rfl
def iV (z : Int) : Value := .int .i64 z

theorem ints_at {xs ys : List Int} (k : Nat) (hk : k < xs.length) (hl : xs.length = ys.length) (hp : xs.take k = ys.take k) :
    (xs[k] = ys[k]'(by omega) → xs.take (k + 1) = ys.take (k + 1)) ∧ (xs[k] ≠ ys[k]'(by omega) → xs ≠ ys) := by
  constructor
  · intro h
    rw [List.take_succ_eq_append_getElem hk, List.take_succ_eq_append_getElem (by omega), hp, h]
  · rintro h rfl
    exact h rfl

set_option maxHeartbeats 1000000 in
theorem ints_any (A B : Option Addr) (n m cA cB : Nat) (xs ys : List Int) (w : World) (b1 b2 : Nat) (hx : Rd w b1 1 A n (xs.map iV)) (hy : Rd w b2 1 B m (ys.map iV)) (hn : n ≤ 1000000) (hm : m ≤ 1000000) :
    Calls Try.prog 12 #[.slice A n cA, .slice B m cB] w fun e w' => e = .returned (.bool (decide (xs = ys))) ∧ ∃ q, w' = w.drewN q := by
  have hxl : xs.length = n := by simpa using hx.1
  have hyl : ys.length = m := by simpa using hy.1
  by_cases hnm : n = m
  · subst hnm
    go_enter Try.func12, Try.ntmps12
    go_wp2
    go_loopw [5] (fun i wr => ∃ k : Nat, k ≤ n ∧ i = .int .i64 k ∧ Hid (xs.take k = ys.take k) ∧ ∃ q, wr = w.drewN q) (fun i _ => n - (intOf i).toNat)
    case atStart => exact ⟨0, by omega, rfl, rfl, 0, rfl⟩
    case round =>
      obtain ⟨k, hk, rfl, hp, q, rfl⟩ := hrel
      by_cases hlt : k < n
      · obtain ⟨bx, ox, rfl, hbx, hcx⟩ := hx.2 (by omega)
        obtain ⟨b_y, o_y, rfl, hby, hcy⟩ := hy.2 (by omega)
        have h1 := hcx k (by omega)
        have h2 := hcy k (by omega)
        have ht := ints_at k (by omega) (by omega) hp.out
        rw [List.getElem?_map, List.getElem?_eq_getElem (by omega)] at h1 h2
        simp only [Option.map_some, iV] at h1 h2
        generalize xs[k]'(by omega) = x at *
        generalize ys[k]'(by omega) = y at *
        have i1 : (k : Int) < (n : Int) := by omega
        have i2 : (0 : Int) ≤ (k : Int) := by omega
        clear hcx hcy
        by_cases hxy : x = y
        · have HT := Lib.hid (ht.1 hxy)
          subst hxy
          clear ht
          go_wp2_with fail
          go_quiet (fail)
          go_wp2
          go_roundw
          case rel => exact ⟨k + 1, by omega, by go_num, HT.out, q + nq, by simp⟩
          case measure => simp [intOf]; omega
        · have HT := Lib.hid (ht.2 hxy)
          have hb : (x != y) = true := by simpa using hxy
          clear ht
          go_wp2_with fail
          go_quiet (fail)
          go_wp2
          go_ret
          exact ⟨by rw [decide_eq_false HT.out]; rfl, q + nq, by simp⟩
      · have HT : Hid (xs = ys) := by
          have := hp.out
          rwa [List.take_of_length_le (by omega), List.take_of_length_le (by omega)] at this
        go_wp2
        go_ret
        exact ⟨by rw [decide_eq_true HT.out]; rfl, _, rfl⟩
  · have HT : Hid (xs ≠ ys) := by rintro rfl; omega
    have hb : ((n : Int) != (m : Int)) = true := by simp; omega
    go_enter Try.func12, Try.ntmps12
    go_wp2
    go_ret
    exact ⟨by rw [decide_eq_false HT.out]; rfl, 0, rfl⟩

def NewI (w w' : World) (v : Value) (zs : List Int) : Prop :=
  Own w' 3 1 v zs.length (zs.map iV) ∧ Below w.heap.size w w' ∧ ∀ k, v.ownBlock = some k → w.heap.size ≤ k
def RetNewI (w : World) (zs : List Int) (e : Ending) (w' : World) : Prop := ∃ v, e = .returned v ∧ NewI w w' v zs

theorem newI_1 (w : World) (z : Int) : NewI w (w.alloc (.cells #[.int .i64 z] 3)) (.slice (some ⟨w.heap.size, 0, none⟩) 1 1) [z] :=
  ⟨by have := Own.lit w 3 1 1 #[.int .i64 z] rfl (by decide); simpa [iV] using this, below_al (Below.refl _ _) _, by simp [Value.ownBlock]⟩
theorem newI_2 (w : World) (z y : Int) : NewI w (w.alloc (.cells #[.int .i64 z, .int .i64 y] 3)) (.slice (some ⟨w.heap.size, 0, none⟩) 2 2) [z, y] :=
  ⟨by have := Own.lit w 3 1 2 #[.int .i64 z, .int .i64 y] rfl (by decide); simpa [iV] using this, below_al (Below.refl _ _) _, by simp [Value.ownBlock]⟩

theorem Own.rdI {w : World} {e : TypeId} {n : Nat} {v : Value} {xs : List Value} (h : Own w e 1 v n xs) : ∃ A cap, v = .slice A n cap ∧ Rd w w.heap.size 1 A n xs ∧ n ≤ cap := by
  obtain ⟨A, cap, rfl, hc, _⟩ := h.len_
  exact ⟨A, cap, rfl, h.rd, hc⟩
end Go.Proofs.Ytamgngmbbbegpaa
