/-
  Contracts of reedbedref01.value and of reedbedref01.Get; no condition beyond those that each theorem states.
-/
import Derived.Test.YtgfienopijlnkaaCode3
namespace Go.Proofs.Ytgfienopijlnkaa
open Go.RowKit Go.Rb

def badG : Int × Int := (65533, 1)
def valHead (c : Int) : Int := if 240 ≤ c then c - 240 else if 224 ≤ c then c - 224 else if 192 ≤ c then c - 192 else c
def valTo : Int → List UInt8 → Int
  | r, [] => r
  | r, c :: l => valTo (r * 64 + ((c.toNat : Int) + 128) % 256) l
def valP : List UInt8 → Int
  | [] => 0
  | c :: l => valTo (valHead c.toNat) l

theorem valHead_bd (c : Int) (h0 : 0 ≤ c) (h1 : c < 256) : 0 ≤ valHead c ∧ valHead c < 256 := by
  unfold valHead; split <;> (try split) <;> (try split) <;> omega

theorem u8_lt (c : UInt8) : (0 : Int) ≤ (c.toNat : Int) ∧ (c.toNat : Int) < 256 := ⟨by omega, by have := c.toNat_lt; omega⟩
theorem idx_str (s : ByteArray) (j : Nat) (hj : j < s.size) (w : World) : (Instr.index 9 (.string s) (.int .i64 (j : Int))).run Try.prog w = .ok (.int .u8 (s[j].toNat : Int)) w := by
  go_simp
def vStep (r x : Int) : Int := r * 64 + (x + 128) % 256
theorem valHead_cases (x : Int) : (240 ≤ x ∧ valHead x = x - 240) ∨ (224 ≤ x ∧ x < 240 ∧ valHead x = x - 224) ∨ (192 ≤ x ∧ x < 224 ∧ valHead x = x - 192) ∨ (x < 192 ∧ valHead x = x) := by
  unfold valHead
  by_cases h1 : 240 ≤ x
  · exact .inl ⟨h1, if_pos h1⟩
  · by_cases h2 : 224 ≤ x
    · exact .inr (.inl ⟨h2, by omega, by rw [if_neg h1, if_pos h2]⟩)
    · by_cases h3 : 192 ≤ x
      · exact .inr (.inr (.inl ⟨h3, by omega, by rw [if_neg h1, if_neg h2, if_pos h3]⟩))
      · exact .inr (.inr (.inr ⟨by omega, by rw [if_neg h1, if_neg h2, if_neg h3]⟩))

set_option maxHeartbeats 2000000 in
theorem value_1 (s : ByteArray) (x0 : Int) (w : World) (hs : s.size = 1) (i0 : ∀ w, (Instr.index 9 (.string s) (.int .i64 0)).run Try.prog w = .ok (.int .u8 x0) w) (l0 : 0 ≤ x0) (u0 : x0 < 256) (p : Int) (hp : Hid (valHead x0 = p)) :
    Calls Try.prog 25 #[.string s] w fun e w' => e = .returned (.int .i64 p) ∧ w = w' := by
  rcases valHead_cases x0 with ⟨k1, h⟩ | ⟨k1, k2, h⟩ | ⟨k1, k2, h⟩ | ⟨k1, h⟩
  all_goals
    rw [h] at hp
    clear h
    go_enter Try.func25, Try.ntmps25
    go_wp2
    refine wp_loop_rounds 1 ?_
    rw [rounds_succ]
    go_wp2
    go_ret
    exact ⟨by rw [← hp.out]; rfl, rfl⟩

set_option maxHeartbeats 2000000 in
theorem value_2 (s : ByteArray) (x0 x1 : Int) (w : World) (hs : s.size = 2) (i0 : ∀ w, (Instr.index 9 (.string s) (.int .i64 0)).run Try.prog w = .ok (.int .u8 x0) w) (i1 : ∀ w, (Instr.index 9 (.string s) (.int .i64 1)).run Try.prog w = .ok (.int .u8 x1) w) (l0 : 0 ≤ x0) (u0 : x0 < 256) (l1 : 0 ≤ x1) (u1 : x1 < 256) (p : Int) (hp : Hid (vStep (valHead x0) x1 = p)) :
    Calls Try.prog 25 #[.string s] w fun e w' => e = .returned (.int .i64 p) ∧ w = w' := by
  rcases valHead_cases x0 with ⟨k1, h⟩ | ⟨k1, k2, h⟩ | ⟨k1, k2, h⟩ | ⟨k1, h⟩
  all_goals
    rw [h] at hp
    clear h
    go_enter Try.func25, Try.ntmps25
    go_wp2
    refine wp_loop_rounds 2 ?_
    rw [rounds_succ]
    go_wp2
    rw [rounds_succ]
    go_wp2
    go_ret
    exact ⟨by rw [← hp.out]; rfl, rfl⟩

set_option maxHeartbeats 2000000 in
theorem value_3 (s : ByteArray) (x0 x1 x2 : Int) (w : World) (hs : s.size = 3) (i0 : ∀ w, (Instr.index 9 (.string s) (.int .i64 0)).run Try.prog w = .ok (.int .u8 x0) w) (i1 : ∀ w, (Instr.index 9 (.string s) (.int .i64 1)).run Try.prog w = .ok (.int .u8 x1) w) (i2 : ∀ w, (Instr.index 9 (.string s) (.int .i64 2)).run Try.prog w = .ok (.int .u8 x2) w) (l0 : 0 ≤ x0) (u0 : x0 < 256) (l1 : 0 ≤ x1) (u1 : x1 < 256) (l2 : 0 ≤ x2) (u2 : x2 < 256) (p : Int) (hp : Hid (vStep (vStep (valHead x0) x1) x2 = p)) :
    Calls Try.prog 25 #[.string s] w fun e w' => e = .returned (.int .i64 p) ∧ w = w' := by
  rcases valHead_cases x0 with ⟨k1, h⟩ | ⟨k1, k2, h⟩ | ⟨k1, k2, h⟩ | ⟨k1, h⟩
  all_goals
    rw [h] at hp
    clear h
    go_enter Try.func25, Try.ntmps25
    go_wp2
    refine wp_loop_rounds 3 ?_
    rw [rounds_succ]
    go_wp2
    rw [rounds_succ]
    go_wp2
    rw [rounds_succ]
    go_wp2
    go_ret
    exact ⟨by rw [← hp.out]; rfl, rfl⟩

set_option maxHeartbeats 2000000 in
theorem value_4 (s : ByteArray) (x0 x1 x2 x3 : Int) (w : World) (hs : s.size = 4) (i0 : ∀ w, (Instr.index 9 (.string s) (.int .i64 0)).run Try.prog w = .ok (.int .u8 x0) w) (i1 : ∀ w, (Instr.index 9 (.string s) (.int .i64 1)).run Try.prog w = .ok (.int .u8 x1) w) (i2 : ∀ w, (Instr.index 9 (.string s) (.int .i64 2)).run Try.prog w = .ok (.int .u8 x2) w) (i3 : ∀ w, (Instr.index 9 (.string s) (.int .i64 3)).run Try.prog w = .ok (.int .u8 x3) w) (l0 : 0 ≤ x0) (u0 : x0 < 256) (l1 : 0 ≤ x1) (u1 : x1 < 256) (l2 : 0 ≤ x2) (u2 : x2 < 256) (l3 : 0 ≤ x3) (u3 : x3 < 256) (p : Int) (hp : Hid (vStep (vStep (vStep (valHead x0) x1) x2) x3 = p)) :
    Calls Try.prog 25 #[.string s] w fun e w' => e = .returned (.int .i64 p) ∧ w = w' := by
  rcases valHead_cases x0 with ⟨k1, h⟩ | ⟨k1, k2, h⟩ | ⟨k1, k2, h⟩ | ⟨k1, h⟩
  all_goals
    rw [h] at hp
    clear h
    go_enter Try.func25, Try.ntmps25
    go_wp2
    refine wp_loop_rounds 4 ?_
    rw [rounds_succ]
    go_wp2
    rw [rounds_succ]
    go_wp2
    rw [rounds_succ]
    go_wp2
    rw [rounds_succ]
    go_wp2
    go_ret
    exact ⟨by rw [← hp.out]; rfl, rfl⟩


theorem data_1 (s : ByteArray) (h : s.size = 1) : s.data.toList = [s[0]] := by
  apply List.ext_getElem
  · simp; exact h
  · intro i h1 h2; simp at h2; obtain rfl : i = 0 := by omega
    rfl
theorem data_2 (s : ByteArray) (h : s.size = 2) : s.data.toList = [s[0], s[1]] := by
  apply List.ext_getElem
  · simp; exact h
  · intro i h1 h2; simp at h2
    rcases (by omega : i = 0 ∨ i = 1) with rfl | rfl <;> rfl
theorem data_3 (s : ByteArray) (h : s.size = 3) : s.data.toList = [s[0], s[1], s[2]] := by
  apply List.ext_getElem
  · simp; exact h
  · intro i h1 h2; simp at h2
    rcases (by omega : i = 0 ∨ i = 1 ∨ i = 2) with rfl | rfl | rfl <;> rfl
theorem data_4 (s : ByteArray) (h : s.size = 4) : s.data.toList = [s[0], s[1], s[2], s[3]] := by
  apply List.ext_getElem
  · simp; exact h
  · intro i h1 h2; simp at h2
    rcases (by omega : i = 0 ∨ i = 1 ∨ i = 2 ∨ i = 3) with rfl | rfl | rfl | rfl <;> rfl

theorem value_any (s : ByteArray) (h1 : 1 ≤ s.size) (h4 : s.size ≤ 4) (w : World) :
    Calls Try.prog 25 #[.string s] w fun e w' => e = .returned (.int .i64 (valP s.data.toList)) ∧ w = w' := by
  rcases (by omega : s.size = 1 ∨ s.size = 2 ∨ s.size = 3 ∨ s.size = 4) with h | h | h | h
  · rw [data_1 s h]
    exact value_1 s _ w h (idx_str s 0 (by omega)) (u8_lt _).1 (u8_lt _).2 _ rfl
  · rw [data_2 s h]
    exact value_2 s _ _ w h (idx_str s 0 (by omega)) (idx_str s 1 (by omega)) (u8_lt _).1 (u8_lt _).2 (u8_lt _).1 (u8_lt _).2 _ rfl
  · rw [data_3 s h]
    exact value_3 s _ _ _ w h (idx_str s 0 (by omega)) (idx_str s 1 (by omega)) (idx_str s 2 (by omega)) (u8_lt _).1 (u8_lt _).2 (u8_lt _).1 (u8_lt _).2 (u8_lt _).1 (u8_lt _).2 _ rfl
  · rw [data_4 s h]
    exact value_4 s _ _ _ _ w h (idx_str s 0 (by omega)) (idx_str s 1 (by omega)) (idx_str s 2 (by omega)) (idx_str s 3 (by omega)) (u8_lt _).1 (u8_lt _).2 (u8_lt _).1 (u8_lt _).2 (u8_lt _).1 (u8_lt _).2 (u8_lt _).1 (u8_lt _).2 _ rfl
end Go.Proofs.Ytgfienopijlnkaa
