/-
  contracts of reedbedref01.value and of reedbedref01.Get; the contract of reedbedref01.Get; plain facts: octets are in the order of their code points; plain facts: what code.Get computes is what the definition says, and a code point's octets are read back; the contract of reedbedref09.points; the contract of reedbedref09.number; no condition beyond those that each theorem states.
-/
import Derived.Test.YtjfkppbfckgckaaG01
import Derived.Handy
set_option linter.unusedVariables false
set_option linter.unusedSimpArgs false
namespace Go.Proofs.Ytjfkppbfckgckaa
open Go.RowKit Go.Rb

def valHead (c : Int) : Int := if 240 ≤ c then c - 240 else if 224 ≤ c then c - 224 else if 192 ≤ c then c - 192 else c
def valTo : Int → List UInt8 → Int
  | r, [] => r
  | r, c :: l => valTo (r * 64 + ((c.toNat : Int) + 128) % 256) l
def valP : List UInt8 → Int
  | [] => 0
  | c :: l => valTo (valHead c.toNat) l

theorem valHead_bd (c : Int) (h0 : 0 ≤ c) (h1 : c < 256) : 0 ≤ valHead c ∧ valHead c < 256 := by
  unfold valHead; split <;> (try split) <;> (try split) <;> omega

theorem u8_lt (c : UInt8) : (0 : Int) ≤ (c.toNat : Int) ∧ (c.toNat : Int) < 256 := ⟨by omega, by have := c.toNat_lt; omega⟩
theorem idx_str (s : ByteArray) (j : Nat) (hj : j < s.size) (w : World) : (Instr.index 9 (.string s) (.int .i64 (j : Int))).run Try.prog w = .ok (.int .u8 (s[j].toNat : Int)) w := by
  go_simp
def vStep (r x : Int) : Int := r * 64 + (x + 128) % 256
theorem valHead_cases (x : Int) : (240 ≤ x ∧ valHead x = x - 240) ∨ (224 ≤ x ∧ x < 240 ∧ valHead x = x - 224) ∨ (192 ≤ x ∧ x < 224 ∧ valHead x = x - 192) ∨ (x < 192 ∧ valHead x = x) := by
  unfold valHead
  by_cases h1 : 240 ≤ x
  · exact .inl ⟨h1, if_pos h1⟩
  · by_cases h2 : 224 ≤ x
    · exact .inr (.inl ⟨h2, by omega, by rw [if_neg h1, if_pos h2]⟩)
    · by_cases h3 : 192 ≤ x
      · exact .inr (.inr (.inl ⟨h3, by omega, by rw [if_neg h1, if_neg h2, if_pos h3]⟩))
      · exact .inr (.inr (.inr ⟨by omega, by rw [if_neg h1, if_neg h2, if_neg h3]⟩))

set_option maxHeartbeats 2000000 in
theorem value_1 (s : ByteArray) (x0 : Int) (w : World) (hs : s.size = 1) (i0 : ∀ w, (Instr.index 9 (.string s) (.int .i64 0)).run Try.prog w = .ok (.int .u8 x0) w) (l0 : 0 ≤ x0) (u0 : x0 < 256) (p : Int) (hp : Hid (valHead x0 = p)) :
    Calls Try.prog 46 #[.string s] w fun e w' => e = .returned (.int .i64 p) ∧ w = w' := by
  rcases valHead_cases x0 with ⟨k1, h⟩ | ⟨k1, k2, h⟩ | ⟨k1, k2, h⟩ | ⟨k1, h⟩
  all_goals
    rw [h] at hp
    clear h
    go_enter Try.func46, Try.ntmps46
    go_wp2
    refine wp_loop_rounds 1 ?_
    rw [rounds_succ]
    go_wp2
    go_ret
    exact ⟨by rw [← hp.out]; rfl, rfl⟩

set_option maxHeartbeats 2000000 in
theorem value_2 (s : ByteArray) (x0 x1 : Int) (w : World) (hs : s.size = 2) (i0 : ∀ w, (Instr.index 9 (.string s) (.int .i64 0)).run Try.prog w = .ok (.int .u8 x0) w) (i1 : ∀ w, (Instr.index 9 (.string s) (.int .i64 1)).run Try.prog w = .ok (.int .u8 x1) w) (l0 : 0 ≤ x0) (u0 : x0 < 256) (l1 : 0 ≤ x1) (u1 : x1 < 256) (p : Int) (hp : Hid (vStep (valHead x0) x1 = p)) :
    Calls Try.prog 46 #[.string s] w fun e w' => e = .returned (.int .i64 p) ∧ w = w' := by
  rcases valHead_cases x0 with ⟨k1, h⟩ | ⟨k1, k2, h⟩ | ⟨k1, k2, h⟩ | ⟨k1, h⟩
  all_goals
    rw [h] at hp
    clear h
    go_enter Try.func46, Try.ntmps46
    go_wp2
    refine wp_loop_rounds 2 ?_
    rw [rounds_succ]
    go_wp2
    rw [rounds_succ]
    go_wp2
    go_ret
    exact ⟨by rw [← hp.out]; rfl, rfl⟩

set_option maxHeartbeats 2000000 in
theorem value_3 (s : ByteArray) (x0 x1 x2 : Int) (w : World) (hs : s.size = 3) (i0 : ∀ w, (Instr.index 9 (.string s) (.int .i64 0)).run Try.prog w = .ok (.int .u8 x0) w) (i1 : ∀ w, (Instr.index 9 (.string s) (.int .i64 1)).run Try.prog w = .ok (.int .u8 x1) w) (i2 : ∀ w, (Instr.index 9 (.string s) (.int .i64 2)).run Try.prog w = .ok (.int .u8 x2) w) (l0 : 0 ≤ x0) (u0 : x0 < 256) (l1 : 0 ≤ x1) (u1 : x1 < 256) (l2 : 0 ≤ x2) (u2 : x2 < 256) (p : Int) (hp : Hid (vStep (vStep (valHead x0) x1) x2 = p)) :
    Calls Try.prog 46 #[.string s] w fun e w' => e = .returned (.int .i64 p) ∧ w = w' := by
  rcases valHead_cases x0 with ⟨k1, h⟩ | ⟨k1, k2, h⟩ | ⟨k1, k2, h⟩ | ⟨k1, h⟩
  all_goals
    rw [h] at hp
    clear h
    go_enter Try.func46, Try.ntmps46
    go_wp2
    refine wp_loop_rounds 3 ?_
    rw [rounds_succ]
    go_wp2
    rw [rounds_succ]
    go_wp2
    rw [rounds_succ]
    go_wp2
    go_ret
    exact ⟨by rw [← hp.out]; rfl, rfl⟩

set_option maxHeartbeats 2000000 in
theorem value_4 (s : ByteArray) (x0 x1 x2 x3 : Int) (w : World) (hs : s.size = 4) (i0 : ∀ w, (Instr.index 9 (.string s) (.int .i64 0)).run Try.prog w = .ok (.int .u8 x0) w) (i1 : ∀ w, (Instr.index 9 (.string s) (.int .i64 1)).run Try.prog w = .ok (.int .u8 x1) w) (i2 : ∀ w, (Instr.index 9 (.string s) (.int .i64 2)).run Try.prog w = .ok (.int .u8 x2) w) (i3 : ∀ w, (Instr.index 9 (.string s) (.int .i64 3)).run Try.prog w = .ok (.int .u8 x3) w) (l0 : 0 ≤ x0) (u0 : x0 < 256) (l1 : 0 ≤ x1) (u1 : x1 < 256) (l2 : 0 ≤ x2) (u2 : x2 < 256) (l3 : 0 ≤ x3) (u3 : x3 < 256) (p : Int) (hp : Hid (vStep (vStep (vStep (valHead x0) x1) x2) x3 = p)) :
    Calls Try.prog 46 #[.string s] w fun e w' => e = .returned (.int .i64 p) ∧ w = w' := by
  rcases valHead_cases x0 with ⟨k1, h⟩ | ⟨k1, k2, h⟩ | ⟨k1, k2, h⟩ | ⟨k1, h⟩
  all_goals
    rw [h] at hp
    clear h
    go_enter Try.func46, Try.ntmps46
    go_wp2
    refine wp_loop_rounds 4 ?_
    rw [rounds_succ]
    go_wp2
    rw [rounds_succ]
    go_wp2
    rw [rounds_succ]
    go_wp2
    rw [rounds_succ]
    go_wp2
    go_ret
    exact ⟨by rw [← hp.out]; rfl, rfl⟩


theorem data_1 (s : ByteArray) (h : s.size = 1) : s.data.toList = [s[0]] := by
  apply List.ext_getElem
  · simp; exact h
  · intro i h1 h2; simp at h2; obtain rfl : i = 0 := by omega
    rfl
theorem data_2 (s : ByteArray) (h : s.size = 2) : s.data.toList = [s[0], s[1]] := by
  apply List.ext_getElem
  · simp; exact h
  · intro i h1 h2; simp at h2
    rcases (by omega : i = 0 ∨ i = 1) with rfl | rfl <;> rfl
theorem data_3 (s : ByteArray) (h : s.size = 3) : s.data.toList = [s[0], s[1], s[2]] := by
  apply List.ext_getElem
  · simp; exact h
  · intro i h1 h2; simp at h2
    rcases (by omega : i = 0 ∨ i = 1 ∨ i = 2) with rfl | rfl | rfl <;> rfl
theorem data_4 (s : ByteArray) (h : s.size = 4) : s.data.toList = [s[0], s[1], s[2], s[3]] := by
  apply List.ext_getElem
  · simp; exact h
  · intro i h1 h2; simp at h2
    rcases (by omega : i = 0 ∨ i = 1 ∨ i = 2 ∨ i = 3) with rfl | rfl | rfl | rfl <;> rfl

theorem value_any (s : ByteArray) (h1 : 1 ≤ s.size) (h4 : s.size ≤ 4) (w : World) :
    Calls Try.prog 46 #[.string s] w fun e w' => e = .returned (.int .i64 (valP s.data.toList)) ∧ w = w' := by
  rcases (by omega : s.size = 1 ∨ s.size = 2 ∨ s.size = 3 ∨ s.size = 4) with h | h | h | h
  · rw [data_1 s h]
    exact value_1 s _ w h (idx_str s 0 (by omega)) (u8_lt _).1 (u8_lt _).2 _ rfl
  · rw [data_2 s h]
    exact value_2 s _ _ w h (idx_str s 0 (by omega)) (idx_str s 1 (by omega)) (u8_lt _).1 (u8_lt _).2 (u8_lt _).1 (u8_lt _).2 _ rfl
  · rw [data_3 s h]
    exact value_3 s _ _ _ w h (idx_str s 0 (by omega)) (idx_str s 1 (by omega)) (idx_str s 2 (by omega)) (u8_lt _).1 (u8_lt _).2 (u8_lt _).1 (u8_lt _).2 (u8_lt _).1 (u8_lt _).2 _ rfl
  · rw [data_4 s h]
    exact value_4 s _ _ _ _ w h (idx_str s 0 (by omega)) (idx_str s 1 (by omega)) (idx_str s 2 (by omega)) (idx_str s 3 (by omega)) (u8_lt _).1 (u8_lt _).2 (u8_lt _).1 (u8_lt _).2 (u8_lt _).1 (u8_lt _).2 (u8_lt _).1 (u8_lt _).2 _ rfl
end Go.Proofs.Ytjfkppbfckgckaa
namespace Go.Proofs.Ytjfkppbfckgckaa
open Go.RowKit Go.Rb

/-- Are the first k octets those of the code point that they say? -/
def okN (l : List UInt8) (k : Nat) : Bool := isB (valP (l.take k)) && (putL (valP (l.take k)) == l.take k)
def refAt (l : List UInt8) : Nat → Nat → Int × Int
  | 0, _ => badG
  | fuel + 1, k => if k ≤ 4 ∧ k ≤ l.length then (if okN l k = true then (valP (l.take k), (k : Int)) else refAt l fuel (k + 1)) else badG
/-- The code point at the beginning, by definition. -/
def refP (l : List UInt8) : Int × Int := if l.length = 0 then (65533, 0) else refAt l 5 1

theorem extract_take (s : ByteArray) (k : Nat) : (s.extract 0 k).data.toList = s.data.toList.take k := by
  rw [ByteArray.data_extract]
  simp [Array.toList_extract, List.extract]
theorem extract_size (s : ByteArray) (k : Nat) (h : k ≤ s.size) : (s.extract 0 k).size = k := by
  rw [ByteArray.size_extract]; omega

set_option maxHeartbeats 2000000 in
theorem refGet_some (s : ByteArray) (l : List UInt8) (hl : s.data.toList = l) (h0 : 0 < s.size) (hm : s.size ≤ 1000000) (w : World) (p : Int × Int) (hp : Hid (refAt l 5 1 = p)) :
    Calls Try.prog 32 #[.string s] w fun e w' => e = .returned (.tuple #[.int .i64 p.1, .int .i64 p.2]) ∧ Below w.heap.size w w' := by
  have hll : s.size = l.length := by rw [← hl]; simp
  have HL := Lib.hid hl
  have HLL := Lib.hid hll
  clear hl hll
  have hs0 : ((s.size : Int) == 0) = false := by rw [beq_eq_false_iff_ne]; omega
  go_enter Try.func32, Try.ntmps32
  go_wp2
  go_loopw [4] (fun i wr => ∃ k : Nat, 1 ≤ k ∧ k ≤ 5 ∧ i = .int .i64 k ∧ Hid (refAt l (6 - k) k = p) ∧ Below w.heap.size w wr) (fun i _ => 6 - (intOf i).toNat)
  case atStart => exact ⟨1, by omega, by omega, rfl, hp, Below.refl _ _⟩
  case round =>
    obtain ⟨k, hk1, hk5, rfl, hq, hbw⟩ := hrel
    have HB := Lib.hid hbw
    clear hbw hp
    by_cases hk : k ≤ 4 ∧ k ≤ s.size
    · obtain ⟨hk4, hks⟩ := hk
      have hq1 : Hid ((if okN l k = true then (valP (l.take k), (k : Int)) else refAt l (5 - k) (k + 1)) = p) := by
        have := hq.out
        rw [show 6 - k = (5 - k) + 1 by omega] at this
        unfold refAt at this
        rwa [if_pos ⟨hk4, by have := HLL.out; omega⟩] at this
      clear hq
      have HV := Lib.hid (value_any (s.extract 0 k) (by rw [extract_size s k hks]; omega) (by rw [extract_size s k hks]; omega))
      have HE := Lib.hid (extract_take s k)
      obtain ⟨x, hx⟩ : ∃ x, Hid (valP (l.take k) = x) := ⟨_, rfl⟩
      obtain ⟨z, hz⟩ : ∃ z, Hid (isB x = z) := ⟨_, rfl⟩
      go_wp2_with fail
      refine (HV.out _).mono ?_
      rintro e w' ⟨he, rfl⟩
      rw [HE.out, HL.out, hx.out] at he
      subst he
      -- REGION
      have HEQ : Hid ((putL x == (s.extract 0 k).toList) = (putL x == l.take k)) := by
        show _ = _
        rw [ByteArray.toList_eq, extract_take, HL.out]
      have hkz : (0 : Int) ≤ (k : Int) := by omega
      have hkn : (k : Int) ≤ (s.size : Int) := by omega
      have hi := refIs_any x
      rw [hz.out] at hi
      have HI := Lib.hid hi
      clear hi
      cases z
      · have hq2 : Hid (refAt l (5 - k) (k + 1) = p) := by
          have := hq1.out
          rwa [if_neg (by unfold okN; rw [hx.out, hz.out]; simp)] at this
        clear hq1
        go_wp2_with fail
        refine region_rows (by kernel_rfl) (fun W W' => Below W.heap.size W W')
          [.val (.int .i64 x),
           .val (.bool false),
           .val (.bool false),
           .val (undef),
           .val (undef),
           .val (undef),
           .val (undef),
           .val (undef),
           .val (undef),
           .val (.bool false)]
          (fun W => Below.refl _ W) (fun _ _ _ h k => below_trans h k) (by kernel_rfl) ?_ ?_
        · refine ⟨?_, ?_, ?_, ?_, ?_, ?_, ?_, ?_, ?_, ?_, trivial⟩
          · intro ra RW hR hk hd K hK
            obtain ⟨e5, g5⟩ := hk 5 (.int .i64 x) (by kernel_rfl) rfl
            clear hk hd
            have HR := Lib.hid hR
            clear hR
            go_simp
            exact hK _ _ (Below.refl _ _) rfl
          · intro ra RW hR hk hd K hK
            obtain ⟨v23, e23, g23, f23⟩ := hd 0 23 (by kernel_rfl) rfl
            have f23 : v23 = .int .i64 x := f23
            subst f23
            clear hk hd
            have HR := Lib.hid hR
            clear hR
            go_simp
            refine (HI.out _).mono ?_
            rintro e w2 ⟨rfl, rfl⟩
            exact hK _ _ (Below.refl _ _) rfl
          · intro ra RW hR hk hd K hK
            obtain ⟨v24, e24, g24, f24⟩ := hd 1 24 (by kernel_rfl) rfl
            have f24 : v24 = .bool false := f24
            subst f24
            clear hk hd
            have HR := Lib.hid hR
            clear hR
            go_simp
            exact hK _ _ (Below.refl _ _) rfl
          · intro ra RW hR hk hd K hK
            obtain ⟨e5, g5⟩ := hk 5 (.int .i64 x) (by kernel_rfl) rfl
            obtain ⟨v25, e25, g25, f25⟩ := hd 2 25 (by kernel_rfl) rfl
            have f25 : v25 = .bool false := f25
            subst f25
            clear hk hd
            have HR := Lib.hid hR
            clear hR
            go_simp
            exact hK _ _ (Below.refl _ _) rfl
          · intro ra RW hR hk hd K hK
            obtain ⟨v26, e26, g26, f26⟩ := hd 3 26 (by kernel_rfl) rfl
            have f26 : v26 = undef := f26
            subst f26
            obtain ⟨v25, e25, g25, f25⟩ := hd 2 25 (by kernel_rfl) rfl
            have f25 : v25 = .bool false := f25
            subst f25
            clear hk hd
            have HR := Lib.hid hR
            clear hR
            go_simp
            exact hK _ _ (Below.refl _ _) rfl
          · intro ra RW hR hk hd K hK
            obtain ⟨e0, g0⟩ := hk 0 (.string s) (by kernel_rfl) rfl
            obtain ⟨v25, e25, g25, f25⟩ := hd 2 25 (by kernel_rfl) rfl
            have f25 : v25 = .bool false := f25
            subst f25
            clear hk hd
            have HR := Lib.hid hR
            clear hR
            go_simp
            exact hK _ _ (Below.refl _ _) rfl
          · intro ra RW hR hk hd K hK
            obtain ⟨e4, g4⟩ := hk 4 (.int .i64 (k : Int)) (by kernel_rfl) rfl
            obtain ⟨v25, e25, g25, f25⟩ := hd 2 25 (by kernel_rfl) rfl
            have f25 : v25 = .bool false := f25
            subst f25
            clear hk hd
            have HR := Lib.hid hR
            clear hR
            go_simp
            exact hK _ _ (Below.refl _ _) rfl
          · intro ra RW hR hk hd K hK
            obtain ⟨v28, e28, g28, f28⟩ := hd 5 28 (by kernel_rfl) rfl
            have f28 : v28 = undef := f28
            subst f28
            obtain ⟨v29, e29, g29, f29⟩ := hd 6 29 (by kernel_rfl) rfl
            have f29 : v29 = undef := f29
            subst f29
            obtain ⟨v25, e25, g25, f25⟩ := hd 2 25 (by kernel_rfl) rfl
            have f25 : v25 = .bool false := f25
            subst f25
            clear hk hd
            have HR := Lib.hid hR
            clear hR
            go_simp
            exact hK _ _ (Below.refl _ _) rfl
          · intro ra RW hR hk hd K hK
            obtain ⟨v27, e27, g27, f27⟩ := hd 4 27 (by kernel_rfl) rfl
            have f27 : v27 = undef := f27
            subst f27
            obtain ⟨v30, e30, g30, f30⟩ := hd 7 30 (by kernel_rfl) rfl
            have f30 : v30 = undef := f30
            subst f30
            obtain ⟨v25, e25, g25, f25⟩ := hd 2 25 (by kernel_rfl) rfl
            have f25 : v25 = .bool false := f25
            subst f25
            clear hk hd
            have HR := Lib.hid hR
            clear hR
            go_simp
            exact hK _ _ (Below.refl _ _) rfl
          · intro ra RW hR hk hd K hK
            obtain ⟨v25, e25, g25, f25⟩ := hd 2 25 (by kernel_rfl) rfl
            have f25 : v25 = .bool false := f25
            subst f25
            obtain ⟨v31, e31, g31, f31⟩ := hd 8 31 (by kernel_rfl) rfl
            have f31 : v31 = undef := f31
            subst f31
            clear hk hd
            have HR := Lib.hid hR
            clear hR
            go_simp
            exact hK _ _ (Below.refl _ _) rfl
        intro vs RW hR hF
        have q0 : vs 0 = .int .i64 x := hF 0 (by decide)
        have q1 : vs 1 = .bool false := hF 1 (by decide)
        have q2 : vs 2 = .bool false := hF 2 (by decide)
        have q3 : vs 3 = undef := hF 3 (by decide)
        have q4 : vs 4 = undef := hF 4 (by decide)
        have q5 : vs 5 = undef := hF 5 (by decide)
        have q6 : vs 6 = undef := hF 6 (by decide)
        have q7 : vs 7 = undef := hF 7 (by decide)
        have q8 : vs 8 = undef := hF 8 (by decide)
        have q9 : vs 9 = .bool false := hF 9 (by decide)
        simp only [setAll, List.setIfInBounds_toArray, List.set_cons_zero, List.set_cons_succ, q0, q1, q2, q3, q4, q5, q6, q7, q8, q9]
        clear hF q0 q1 q2 q3 q4 q5 q6 q7 q8 q9
        clear vs
        have hb2 := below_trans HB.out.drew hR
        clear hR
        go_wp2
        go_roundw
        case rel =>
            have he : 6 - (k + 1) = 5 - k := by omega
            rw [← he] at hq2
            exact ⟨k + 1, by omega, by omega, by go_num, hq2, hb2⟩
        case measure => simp [intOf]; omega
      · obtain ⟨b, hb⟩ : ∃ b, Hid ((putL x == l.take k) = b) := ⟨_, rfl⟩
        go_wp2_with fail
        refine region_rows (by kernel_rfl) (fun W W' => Below W.heap.size W W')
          [.val (.int .i64 x),
           .val (.bool true),
           .val (.bool true),
           .val (.int .i64 x),
           .val (.string ⟨(putL x).toArray⟩),
           .val (.string s),
           .val (.int .i64 (k : Int)),
           .val (.string (s.extract 0 k)),
           .val (.bool (putL x == l.take k)),
           .val (.bool (putL x == l.take k))]
          (fun W => Below.refl _ W) (fun _ _ _ h k => below_trans h k) (by kernel_rfl) ?_ ?_
        · refine ⟨?_, ?_, ?_, ?_, ?_, ?_, ?_, ?_, ?_, ?_, trivial⟩
          · intro ra RW hR hk hd K hK
            obtain ⟨e5, g5⟩ := hk 5 (.int .i64 x) (by kernel_rfl) rfl
            clear hk hd
            have HR := Lib.hid hR
            clear hR
            go_simp
            exact hK _ _ (Below.refl _ _) rfl
          · intro ra RW hR hk hd K hK
            obtain ⟨v23, e23, g23, f23⟩ := hd 0 23 (by kernel_rfl) rfl
            have f23 : v23 = .int .i64 x := f23
            subst f23
            clear hk hd
            have HR := Lib.hid hR
            clear hR
            go_simp
            refine (HI.out _).mono ?_
            rintro e w2 ⟨rfl, rfl⟩
            exact hK _ _ (Below.refl _ _) rfl
          · intro ra RW hR hk hd K hK
            obtain ⟨v24, e24, g24, f24⟩ := hd 1 24 (by kernel_rfl) rfl
            have f24 : v24 = .bool true := f24
            subst f24
            clear hk hd
            have HR := Lib.hid hR
            clear hR
            go_simp
            exact hK _ _ (Below.refl _ _) rfl
          · intro ra RW hR hk hd K hK
            obtain ⟨e5, g5⟩ := hk 5 (.int .i64 x) (by kernel_rfl) rfl
            obtain ⟨v25, e25, g25, f25⟩ := hd 2 25 (by kernel_rfl) rfl
            have f25 : v25 = .bool true := f25
            subst f25
            clear hk hd
            have HR := Lib.hid hR
            clear hR
            go_simp
            exact hK _ _ (Below.refl _ _) rfl
          · intro ra RW hR hk hd K hK
            obtain ⟨v26, e26, g26, f26⟩ := hd 3 26 (by kernel_rfl) rfl
            have f26 : v26 = .int .i64 x := f26
            subst f26
            obtain ⟨v25, e25, g25, f25⟩ := hd 2 25 (by kernel_rfl) rfl
            have f25 : v25 = .bool true := f25
            subst f25
            clear hk hd
            have HR := Lib.hid hR
            clear hR
            go_simp
            refine (refPut_any x _).mono ?_
            rintro e w2 ⟨rfl, hb2⟩
            exact hK _ _ hb2 rfl
          · intro ra RW hR hk hd K hK
            obtain ⟨e0, g0⟩ := hk 0 (.string s) (by kernel_rfl) rfl
            obtain ⟨v25, e25, g25, f25⟩ := hd 2 25 (by kernel_rfl) rfl
            have f25 : v25 = .bool true := f25
            subst f25
            clear hk hd
            have HR := Lib.hid hR
            clear hR
            go_simp
            exact hK _ _ (Below.refl _ _) rfl
          · intro ra RW hR hk hd K hK
            obtain ⟨e4, g4⟩ := hk 4 (.int .i64 (k : Int)) (by kernel_rfl) rfl
            obtain ⟨v25, e25, g25, f25⟩ := hd 2 25 (by kernel_rfl) rfl
            have f25 : v25 = .bool true := f25
            subst f25
            clear hk hd
            have HR := Lib.hid hR
            clear hR
            go_simp
            exact hK _ _ (Below.refl _ _) rfl
          · intro ra RW hR hk hd K hK
            obtain ⟨v28, e28, g28, f28⟩ := hd 5 28 (by kernel_rfl) rfl
            have f28 : v28 = .string s := f28
            subst f28
            obtain ⟨v29, e29, g29, f29⟩ := hd 6 29 (by kernel_rfl) rfl
            have f29 : v29 = .int .i64 (k : Int) := f29
            subst f29
            obtain ⟨v25, e25, g25, f25⟩ := hd 2 25 (by kernel_rfl) rfl
            have f25 : v25 = .bool true := f25
            subst f25
            clear hk hd
            have HR := Lib.hid hR
            clear hR
            go_simp
            exact hK _ _ (Below.refl _ _) rfl
          · intro ra RW hR hk hd K hK
            obtain ⟨v27, e27, g27, f27⟩ := hd 4 27 (by kernel_rfl) rfl
            have f27 : v27 = .string ⟨(putL x).toArray⟩ := f27
            subst f27
            obtain ⟨v30, e30, g30, f30⟩ := hd 7 30 (by kernel_rfl) rfl
            have f30 : v30 = .string (s.extract 0 k) := f30
            subst f30
            obtain ⟨v25, e25, g25, f25⟩ := hd 2 25 (by kernel_rfl) rfl
            have f25 : v25 = .bool true := f25
            subst f25
            clear hk hd
            have HR := Lib.hid hR
            clear hR
            go_simp
            rw [HEQ.out]
            exact hK _ _ (Below.refl _ _) rfl
          · intro ra RW hR hk hd K hK
            obtain ⟨v25, e25, g25, f25⟩ := hd 2 25 (by kernel_rfl) rfl
            have f25 : v25 = .bool true := f25
            subst f25
            obtain ⟨v31, e31, g31, f31⟩ := hd 8 31 (by kernel_rfl) rfl
            have f31 : v31 = .bool (putL x == l.take k) := f31
            subst f31
            clear hk hd
            have HR := Lib.hid hR
            clear hR
            go_simp
            exact hK _ _ (Below.refl _ _) rfl
        intro vs RW hR hF
        have q0 : vs 0 = .int .i64 x := hF 0 (by decide)
        have q1 : vs 1 = .bool true := hF 1 (by decide)
        have q2 : vs 2 = .bool true := hF 2 (by decide)
        have q3 : vs 3 = .int .i64 x := hF 3 (by decide)
        have q4 : vs 4 = .string ⟨(putL x).toArray⟩ := hF 4 (by decide)
        have q5 : vs 5 = .string s := hF 5 (by decide)
        have q6 : vs 6 = .int .i64 (k : Int) := hF 6 (by decide)
        have q7 : vs 7 = .string (s.extract 0 k) := hF 7 (by decide)
        have q8 : vs 8 = .bool (putL x == l.take k) := hF 8 (by decide)
        have q9 : vs 9 = .bool (putL x == l.take k) := hF 9 (by decide)
        simp only [setAll, List.setIfInBounds_toArray, List.set_cons_zero, List.set_cons_succ, q0, q1, q2, q3, q4, q5, q6, q7, q8, q9]
        clear hF q0 q1 q2 q3 q4 q5 q6 q7 q8 q9
        clear vs
        have hb2 := below_trans HB.out.drew hR
        clear hR
        rw [hb.out]
        cases b
        · have hq2 : Hid (refAt l (5 - k) (k + 1) = p) := by
            have := hq1.out
            rwa [if_neg (by unfold okN; rw [hx.out, hz.out, hb.out]; simp)] at this
          clear hq1
          go_wp2
          go_roundw
          case rel =>
            have he : 6 - (k + 1) = 5 - k := by omega
            rw [← he] at hq2
            exact ⟨k + 1, by omega, by omega, by go_num, hq2, hb2⟩
          case measure => simp [intOf]; omega
        · have hq2 : Hid (((x, (k : Int)) : Int × Int) = p) := by
            have := hq1.out
            rwa [if_pos (by unfold okN; rw [hx.out, hz.out, hb.out]; rfl), hx.out] at this
          clear hq1
          go_wp2
          go_ret2
          exact ⟨by rw [← hq2.out]; first | done | rfl, hb2⟩
    · have hq2 : Hid (badG = p) := by
        have := hq.out
        rcases (by omega : 6 - k = 0 ∨ 6 - k = (5 - k) + 1) with h | h
        · omega
        · rw [h] at this
          unfold refAt at this
          rwa [if_neg (by have := HLL.out; omega)] at this
      clear hq
      by_cases hk4 : k ≤ 4
      all_goals
        go_wp2
        go_ret2
        exact ⟨by rw [← hq2.out]; rfl, HB.out⟩

set_option maxHeartbeats 400000 in
theorem refGet_any (s : ByteArray) (hm : s.size ≤ 1000000) (w : World) :
    Calls Try.prog 32 #[.string s] w fun e w' => e = .returned (.tuple #[.int .i64 (refP s.data.toList).1, .int .i64 (refP s.data.toList).2]) ∧ Below w.heap.size w w' := by
  by_cases h : s.size = 0
  · have hp : refP s.data.toList = (65533, 0) := by
      unfold refP
      rw [if_pos (by simpa using h)]
    rw [hp]
    clear hp
    go_enter Try.func32, Try.ntmps32
    go_wp2
    go_ret2
    exact ⟨rfl, Below.refl _ _⟩
  · have hp : refP s.data.toList = refAt s.data.toList 5 1 := by
      unfold refP
      rw [if_neg (by simpa using h)]
    rw [hp]
    exact refGet_some s _ rfl (by omega) hm w _ rfl
end Go.Proofs.Ytjfkppbfckgckaa
namespace Go.Proofs.Ytjfkppbfckgckaa
open Go.RowKit Go.Rb

theorem by_toNat (n : Int) (h0 : 0 ≤ n) (h1 : n < 256) : ((by_ n).toNat : Int) = n := by
  unfold by_
  simp only [UInt8.toNat_ofNat']
  omega
theorem by_inj (m n : Int) (h0 : 0 ≤ m) (h1 : m < 256) (h2 : 0 ≤ n) (h3 : n < 256) : by_ m = by_ n ↔ m = n := by
  constructor
  · intro h
    have a := by_toNat m h0 h1
    have b := by_toNat n h2 h3
    rw [h] at a
    omega
  · rintro rfl; rfl
theorem less_by (m n : Int) (x y : List UInt8) (h0 : 0 ≤ m) (h1 : m < 256) (h2 : 0 ≤ n) (h3 : n < 256) :
    Op.bytesLess (by_ m :: x) (by_ n :: y) = (decide (m < n) || (decide (m = n) && Op.bytesLess x y)) := by
  have a := by_toNat m h0 h1
  have b := by_toNat n h2 h3
  have e1 : decide (by_ m < by_ n) = decide (m < n) := by
    rw [decide_eq_decide, UInt8.lt_iff_toNat_lt]; omega
  have e2 : (by_ m == by_ n) = decide (m = n) := by
    rw [Bool.eq_iff_iff, beq_iff_eq, decide_eq_true_iff]; exact by_inj m n h0 h1 h2 h3
  show (decide (by_ m < by_ n) || (by_ m == by_ n && Op.bytesLess x y)) = _
  rw [e1, e2]
theorem less_nil : Op.bytesLess [] [] = false := rfl

theorem order_less (a b : Int) (ha : isB a = true) (hb : isB b = true) : Op.bytesLess (putV a) (putV b) = decide (a < b) := by
  have ha' := isB_true.1 ha
  have hb' := isB_true.1 hb
  have key : ∀ r : Int, 0 ≤ r → r ≤ 1114111 → (r < 128 ∧ putV r = [by_ r]) ∨ (128 ≤ r ∧ r < 2048 ∧ putV r = put2 r) ∨ (2048 ≤ r ∧ r < 65536 ∧ putV r = put3 r) ∨ (65536 ≤ r ∧ putV r = put4 r) := by
    intro r _ _
    unfold putV
    by_cases h1 : r < 128
    · left; exact ⟨h1, by rw [if_pos h1]⟩
    · by_cases h2 : r < 2048
      · right; left; exact ⟨by omega, h2, by rw [if_neg h1, if_pos h2]⟩
      · by_cases h3 : r < 65536
        · right; right; left; exact ⟨by omega, h3, by rw [if_neg h1, if_neg h2, if_pos h3]⟩
        · right; right; right; exact ⟨by omega, by rw [if_neg h1, if_neg h2, if_neg h3]⟩
  rcases key a (by omega) (by omega) with ⟨a1, e⟩ | ⟨a1, a2, e⟩ | ⟨a1, a2, e⟩ | ⟨a1, e⟩ <;>
    rcases key b (by omega) (by omega) with ⟨b1, f⟩ | ⟨b1, b2, f⟩ | ⟨b1, b2, f⟩ | ⟨b1, f⟩
  all_goals rw [e, f]
  all_goals try simp only [put2, put3, put4]
  all_goals rw [less_by _ _ _ _ (by omega) (by omega) (by omega) (by omega)]
  all_goals try rw [less_by _ _ _ _ (by omega) (by omega) (by omega) (by omega)]
  all_goals try rw [less_by _ _ _ _ (by omega) (by omega) (by omega) (by omega)]
  all_goals try rw [less_by _ _ _ _ (by omega) (by omega) (by omega) (by omega)]
  all_goals try rw [less_nil]
  all_goals
    rw [Bool.eq_iff_iff]
    simp only [Bool.or_eq_true, Bool.and_eq_true, decide_eq_true_iff, Bool.false_eq_true, and_false, or_false]
  all_goals first
    | omega
    | (constructor <;> intro h <;> first | omega | (left; omega))

theorem less_irrefl (x : List UInt8) : Op.bytesLess x x = false := by
  induction x with
  | nil => rfl
  | cons c x ih => simp [Op.bytesLess, ih]

theorem order_same (a b : Int) (ha : isB a = true) (hb : isB b = true) : (putV a == putV b) = (a == b) := by
  rw [Bool.eq_iff_iff, beq_iff_eq, beq_iff_eq]
  constructor
  · intro h
    have h1 := order_less a b ha hb
    have h2 := order_less b a hb ha
    rw [h, less_irrefl] at h1
    rw [h, less_irrefl] at h2
    have h1 := of_decide_eq_false h1.symm
    have h2 := of_decide_eq_false h2.symm
    omega
  · rintro rfl; rfl
end Go.Proofs.Ytjfkppbfckgckaa
namespace Go.Proofs.Ytjfkppbfckgckaa
open Go.RowKit Go.Rb

theorem by_of (c : UInt8) (n : Int) (h : n = (c.toNat : Int)) : by_ n = c := by
  subst h
  unfold by_
  simp

theorem putV_1 {r : Int} (h : r < 128) : putV r = [by_ r] := by unfold putV; rw [if_pos h]
theorem putV_2 {r : Int} (h0 : 128 ≤ r) (h : r < 2048) : putV r = put2 r := by unfold putV; rw [if_neg (by omega), if_pos h]
theorem putV_3 {r : Int} (h0 : 2048 ≤ r) (h : r < 65536) : putV r = put3 r := by unfold putV; rw [if_neg (by omega), if_neg (by omega), if_pos h]
theorem putV_4 {r : Int} (h0 : 65536 ≤ r) : putV r = put4 r := by unfold putV; rw [if_neg (by omega), if_neg (by omega), if_neg (by omega)]

theorem lenB_1 {c : Int} (h : c < 128) : lenB c = 1 := by unfold lenB; rw [if_pos h]
theorem lenB_2 {c : Int} (h0 : 194 ≤ c) (h : c < 224) : lenB c = 2 := by unfold lenB; rw [if_neg (by omega), if_pos ⟨h0, h⟩]
theorem lenB_3 {c : Int} (h0 : 224 ≤ c) (h : c < 240) : lenB c = 3 := by unfold lenB; rw [if_neg (by omega), if_neg (by omega), if_pos ⟨h0, h⟩]
theorem lenB_4 {c : Int} (h0 : 240 ≤ c) (h : c < 245) : lenB c = 4 := by unfold lenB; rw [if_neg (by omega), if_neg (by omega), if_neg (by omega), if_pos ⟨h0, h⟩]

/-- A code point's octets are read back, whatever stands behind. -/
theorem getP_put (r : Int) (rest : List UInt8) (hb : isB r = true) : getP (putV r ++ rest) = (r, sizeI r) := by
  rcases size_cases r with ⟨hb', hs⟩ | ⟨_, h0, h1, ⟨h2, hs⟩ | ⟨h2, h3, hs⟩ | ⟨h2, h3, hs⟩ | ⟨h2, hs⟩⟩
  · rw [hb] at hb'; cases hb'
  · have e0 := by_toNat r (by omega) (by omega)
    rw [hs, putV_1 h2]
    show getP (by_ r :: rest) = _
    rw [getP_one _ _ (by rw [e0]; exact lenB_1 h2), e0]
  · have e0 := by_toNat (192 + r / 64) (by omega) (by omega)
    have e1 := by_toNat (128 + r % 64) (by omega) (by omega)
    rw [hs, putV_2 h2 h3]
    show getP (by_ _ :: by_ _ :: rest) = _
    rw [getP_2 _ _ _ (by rw [e0]; exact lenB_2 (by omega) (by omega)), if_pos (by unfold cont; rw [e1]; omega)]
    unfold low
    rw [e0, e1, show (192 + r / 64) % 32 * 64 + (128 + r % 64) % 64 = r by omega]
    unfold finG
    rw [if_pos hs]
  · have e0 := by_toNat (224 + r / 4096) (by omega) (by omega)
    have e1 := by_toNat (128 + r / 64 % 64) (by omega) (by omega)
    have e2 := by_toNat (128 + r % 64) (by omega) (by omega)
    rw [hs, putV_3 h2 h3]
    show getP (by_ _ :: by_ _ :: by_ _ :: rest) = _
    rw [getP_3 _ _ _ _ (by rw [e0]; exact lenB_3 (by omega) (by omega)), if_pos (by unfold cont; rw [e1]; omega), if_pos (by unfold cont; rw [e2]; omega)]
    unfold low
    rw [e0, e1, e2, show ((224 + r / 4096) % 16 * 64 + (128 + r / 64 % 64) % 64) * 64 + (128 + r % 64) % 64 = r by omega]
    unfold finG
    rw [if_pos hs]
  · have e0 := by_toNat (240 + r / 262144) (by omega) (by omega)
    have e1 := by_toNat (128 + r / 4096 % 64) (by omega) (by omega)
    have e2 := by_toNat (128 + r / 64 % 64) (by omega) (by omega)
    have e3 := by_toNat (128 + r % 64) (by omega) (by omega)
    rw [hs, putV_4 h2]
    show getP (by_ _ :: by_ _ :: by_ _ :: by_ _ :: rest) = _
    rw [getP_4 _ _ _ _ _ (by rw [e0]; exact lenB_4 (by omega) (by omega)), if_pos (by unfold cont; rw [e1]; omega), if_pos (by unfold cont; rw [e2]; omega), if_pos (by unfold cont; rw [e3]; omega)]
    unfold low
    rw [e0, e1, e2, e3, show (((240 + r / 262144) % 8 * 64 + (128 + r / 4096 % 64) % 64) * 64 + (128 + r / 64 % 64) % 64) * 64 + (128 + r % 64) % 64 = r by omega]
    unfold finG
    rw [if_pos hs]

theorem putV_len (r : Int) (hb : isB r = true) : ((putV r).length : Int) = sizeI r := by
  rcases size_cases r with ⟨hb', hs⟩ | ⟨_, h0, h1, ⟨h2, hs⟩ | ⟨h2, h3, hs⟩ | ⟨h2, h3, hs⟩ | ⟨h2, hs⟩⟩
  · rw [hb] at hb'; cases hb'
  · rw [hs, putV_1 h2]; rfl
  · rw [hs, putV_2 h2 h3]; rfl
  · rw [hs, putV_3 h2 h3]; rfl
  · rw [hs, putV_4 h2]; rfl
theorem putL_of {r : Int} (hb : isB r = true) : putL r = putV r := by unfold putL; rw [if_pos hb]

/-- Where the definition finds a code point, Get gives it. -/
theorem getP_of_ok (l : List UInt8) (k : Nat) (hk : k ≤ l.length) (h : okN l k = true) : getP l = (valP (l.take k), (k : Int)) := by
  unfold okN at h
  generalize valP (l.take k) = x at h ⊢
  rw [Bool.and_eq_true, beq_iff_eq] at h
  obtain ⟨hb, hp⟩ := h
  rw [putL_of hb] at hp
  have hl : l = putV x ++ l.drop k := by rw [hp, List.take_append_drop]
  have hs := putV_len x hb
  rw [hp, List.length_take, Nat.min_eq_left hk] at hs
  rw [hl, getP_put x _ hb, ← hs]

theorem finG_good {n r : Int} (h : finG n r ≠ badG) : sizeI r = n := by
  unfold finG at h
  split at h
  · assumption
  · exact absurd rfl h
theorem isB_of_size {r n : Int} (h : sizeI r = n) (hn : n ≠ 0) : isB r = true := by
  cases hb : isB r
  · rw [sizeI_wrong hb] at h; omega
  · rfl
theorem range_of_size {r : Int} (hb : isB r = true) : (sizeI r = 3 → 2048 ≤ r ∧ r < 65536) ∧ (sizeI r = 4 → 65536 ≤ r) ∧ (sizeI r = 2 → 128 ≤ r ∧ r < 2048) := by
  rcases size_cases r with ⟨hb', hs⟩ | ⟨_, h0, h1, ⟨h2, hs⟩ | ⟨h2, h3, hs⟩ | ⟨h2, h3, hs⟩ | ⟨h2, hs⟩⟩
  · rw [hb] at hb'; cases hb'
  all_goals (rw [hs]; refine ⟨fun h => ?_, fun h => ?_, fun h => ?_⟩ <;> omega)

/-- Where Get finds one, so does the definition. -/
theorem ok_of_getP (l : List UInt8) (h0 : l ≠ []) (h : getP l ≠ badG) : ∃ k, 1 ≤ k ∧ k ≤ 4 ∧ k ≤ l.length ∧ okN l k = true := by
  obtain ⟨c0, rest, rfl⟩ : ∃ c0 rest, l = c0 :: rest := by
    cases l with
    | nil => exact absurd rfl h0
    | cons c0 rest => exact ⟨c0, rest, rfl⟩
  have b0 := u8_lt c0
  rcases lenB_cases (c0.toNat : Int) with ⟨h1, hl⟩ | ⟨h1, h2, hl⟩ | ⟨h1, h2, hl⟩ | ⟨h1, h2, hl⟩ | ⟨h1, h2, hl⟩ | ⟨h1, hl⟩
  · refine ⟨1, by omega, by omega, by simp, ?_⟩
    have hv : valP ((c0 :: rest).take 1) = (c0.toNat : Int) := by
      show valHead _ = _
      unfold valHead
      rw [if_neg (by omega), if_neg (by omega), if_neg (by omega)]
    have hb : isB (c0.toNat : Int) = true := isB_true.2 (by omega)
    unfold okN
    rw [hv, hb, putL_of hb, putV_1 h1, by_of c0 _ rfl]
    simp
  · exact absurd (getP_zero c0 rest hl) h
  · rcases rest with _ | ⟨c1, rest⟩
    · exact absurd (getP_2s1 c0 hl) h
    · rw [getP_2 c0 c1 rest hl] at h
      have b1 := u8_lt c1
      by_cases k1 : cont c1
      · rw [if_pos k1] at h
        unfold low at h
        unfold cont at k1
        refine ⟨2, by omega, by omega, by simp, ?_⟩
        generalize hr : (c0.toNat : Int) % 32 * 64 + (c1.toNat : Int) % 64 = r at h
        have hb := isB_of_size (finG_good h) (by omega)
        have hrg := (range_of_size hb).2.2 (finG_good h)
        have hv : valP ((c0 :: c1 :: rest).take 2) = r := by
          show vStep (valHead _) _ = _
          unfold valHead vStep
          rw [if_neg (by omega), if_neg (by omega), if_pos (by omega)]
          omega
        unfold okN
        rw [hv, hb, putL_of hb, putV_2 hrg.1 hrg.2]
        unfold put2
        rw [by_of c0 (192 + r / 64) (by omega), by_of c1 (128 + r % 64) (by omega)]
        simp
      · rw [if_neg k1] at h; exact absurd rfl h
  · rcases rest with _ | ⟨c1, _ | ⟨c2, rest⟩⟩
    · exact absurd (getP_3s1 c0 hl) h
    · exact absurd (getP_3s2 c0 c1 hl) h
    · rw [getP_3 c0 c1 c2 rest hl] at h
      have b1 := u8_lt c1
      have b2 := u8_lt c2
      by_cases k1 : cont c1
      · rw [if_pos k1] at h
        by_cases k2 : cont c2
        · rw [if_pos k2] at h
          unfold low at h
          unfold cont at k1 k2
          refine ⟨3, by omega, by omega, by simp, ?_⟩
          generalize hr : ((c0.toNat : Int) % 16 * 64 + (c1.toNat : Int) % 64) * 64 + (c2.toNat : Int) % 64 = r at h
          have hb := isB_of_size (finG_good h) (by omega)
          have hrg := (range_of_size hb).1 (finG_good h)
          have hv : valP ((c0 :: c1 :: c2 :: rest).take 3) = r := by
            show vStep (vStep (valHead _) _) _ = _
            unfold valHead vStep
            rw [if_neg (by omega), if_pos (by omega)]
            omega
          unfold okN
          rw [hv, hb, putL_of hb, putV_3 hrg.1 hrg.2]
          unfold put3
          rw [by_of c0 (224 + r / 4096) (by omega), by_of c1 (128 + r / 64 % 64) (by omega), by_of c2 (128 + r % 64) (by omega)]
          simp
        · rw [if_neg k2] at h; exact absurd rfl h
      · rw [if_neg k1] at h; exact absurd rfl h
  · rcases rest with _ | ⟨c1, _ | ⟨c2, _ | ⟨c3, rest⟩⟩⟩
    · exact absurd (getP_4s1 c0 hl) h
    · exact absurd (getP_4s2 c0 c1 hl) h
    · exact absurd (getP_4s3 c0 c1 c2 hl) h
    · rw [getP_4 c0 c1 c2 c3 rest hl] at h
      have b1 := u8_lt c1
      have b2 := u8_lt c2
      have b3 := u8_lt c3
      by_cases k1 : cont c1
      · rw [if_pos k1] at h
        by_cases k2 : cont c2
        · rw [if_pos k2] at h
          by_cases k3 : cont c3
          · rw [if_pos k3] at h
            unfold low at h
            unfold cont at k1 k2 k3
            refine ⟨4, by omega, by omega, by simp, ?_⟩
            generalize hr : (((c0.toNat : Int) % 8 * 64 + (c1.toNat : Int) % 64) * 64 + (c2.toNat : Int) % 64) * 64 + (c3.toNat : Int) % 64 = r at h
            have hb := isB_of_size (finG_good h) (by omega)
            have hrg := (range_of_size hb).2.1 (finG_good h)
            have hv : valP ((c0 :: c1 :: c2 :: c3 :: rest).take 4) = r := by
              show vStep (vStep (vStep (valHead _) _) _) _ = _
              unfold valHead vStep
              rw [if_pos (by omega)]
              omega
            unfold okN
            rw [hv, hb, putL_of hb, putV_4 hrg]
            unfold put4
            rw [by_of c0 (240 + r / 262144) (by omega), by_of c1 (128 + r / 4096 % 64) (by omega), by_of c2 (128 + r / 64 % 64) (by omega), by_of c3 (128 + r % 64) (by omega)]
            simp
          · rw [if_neg k3] at h; exact absurd rfl h
        · rw [if_neg k2] at h; exact absurd rfl h
      · rw [if_neg k1] at h; exact absurd rfl h
  · exact absurd (getP_zero c0 rest hl) h

theorem refAt_eq (l : List UInt8) : ∀ (fuel k : Nat), k + fuel = 6 → (∀ j, 1 ≤ j → j < k → okN l j = false) → 1 ≤ k → (∃ j, 1 ≤ j ∧ j ≤ 4 ∧ j ≤ l.length ∧ okN l j = true) ∨ getP l = badG → refAt l fuel k = getP l := by
  intro fuel
  induction fuel with
  | zero =>
    intro k hk hno _ hor
    rcases hor with ⟨j, h1, h4, _, hj⟩ | h
    · rw [hno j h1 (by omega)] at hj; cases hj
    · exact h.symm
  | succ fuel ih =>
    intro k hk hno hk1 hor
    unfold refAt
    by_cases hc : k ≤ 4 ∧ k ≤ l.length
    · rw [if_pos hc]
      by_cases ho : okN l k = true
      · rw [if_pos ho]; exact (getP_of_ok l k hc.2 ho).symm
      · rw [if_neg ho]
        refine ih (k + 1) (by omega) (fun j h1 h2 => ?_) (by omega) hor
        by_cases hjk : j = k
        · subst hjk; simpa using ho
        · exact hno j h1 (by omega)
    · rw [if_neg hc]
      rcases hor with ⟨j, h1, h4, h5, hj⟩ | h
      · rw [hno j h1 (by omega)] at hj; cases hj
      · exact h.symm

/-- Get is what the definition says. -/
theorem refP_eq (l : List UInt8) : refP l = getP l := by
  unfold refP
  by_cases h : l.length = 0
  · rw [if_pos h]
    obtain rfl := List.eq_nil_of_length_eq_zero h
    rfl
  · rw [if_neg h]
    refine refAt_eq l 5 1 rfl (fun j h1 h2 => by omega) (by omega) ?_
    by_cases hb : getP l = badG
    · exact .inr hb
    · exact .inl (ok_of_getP l (by rintro rfl; exact h rfl) hb)
end Go.Proofs.Ytjfkppbfckgckaa
namespace Go.Proofs.Ytjfkppbfckgckaa
set_option maxRecDepth 20000
open Go.RowKit Go.Rb
attribute [local irreducible] Go.wpQuiet

def ptsF : Nat → List UInt8 → Option (List Int)
  | 0, _ => some []
  | f + 1, l => if l.isEmpty then some [] else if putL (refP l).1 == l.take (refP l).2.toNat then (ptsF f (l.drop (refP l).2.toNat)).map ((refP l).1 :: ·) else none
/-- A text's code points; none: it has octets that are none's. -/
def pts (l : List UInt8) : Option (List Int) := ptsF l.length l
theorem refAt_bd (l : List UInt8) : ∀ (f k : Nat), 1 ≤ k → f + k = 6 → 1 ≤ l.length → 1 ≤ (refAt l f k).2 ∧ (refAt l f k).2 ≤ (l.length : Int) := by
  intro f
  induction f with
  | zero => intro k _ _ h; exact ⟨Int.le_refl 1, by show (1 : Int) ≤ (l.length : Int); omega⟩
  | succ f ih =>
    intro k h1 h2 h
    unfold refAt
    split
    · split
      · constructor
        · show (1 : Int) ≤ (k : Int); omega
        · show (k : Int) ≤ _; omega
      · exact ih (k + 1) (by omega) (by omega) h
    · constructor
      · show (1 : Int) ≤ 1; omega
      · show (1 : Int) ≤ (l.length : Int); omega
theorem refP_bd (l : List UInt8) (h : 1 ≤ l.length) : 1 ≤ (refP l).2 ∧ (refP l).2 ≤ (l.length : Int) := by
  unfold refP
  rw [if_neg (by omega)]
  exact refAt_bd l 5 1 (by omega) (by omega) h

/-- What points answers. -/
def RetPts (w : World) (l : List UInt8) (e : Ending) (w' : World) : Prop :=
  Below w.heap.size w w' ∧ match pts l with
  | some rs => ∃ v, e = .returned (.tuple #[v, .bool true]) ∧ Own w' 3 1 v rs.length (rs.map iV) ∧ (∀ k, v.ownBlock = some k → w.heap.size ≤ k)
  | none => e = .returned (.tuple #[.slice none 0 0, .bool false])
theorem extract_drop (s : ByteArray) (k : Nat) : (s.extract k s.size).data.toList = s.data.toList.drop k := by
  rw [ByteArray.data_extract, Array.toList_extract]
  unfold List.extract
  exact List.take_of_length_le (by rw [List.length_drop]; simp)
theorem toList_data (x : ByteArray) : x.toList = x.data.toList := by
  obtain ⟨⟨l⟩⟩ := x
  rw [ByteArray.toList_mk]
theorem start_ (s : ByteArray) : Hid (pts s.data.toList = (ptsF s.size s.data.toList).map (([] : List Int) ++ ·)) := by
  show _ = _
  unfold pts
  rw [show s.data.toList.length = s.size from by rw [Array.length_toList]; rfl]
  cases ptsF s.size s.data.toList <;> rfl
set_option maxRecDepth 20000 in
set_option maxHeartbeats 1000000 in
theorem points_any (s : ByteArray) (hm : s.size ≤ 1000) (w : World) : Calls Try.prog 35 #[.string s] w (RetPts w s.data.toList) := by
  obtain ⟨i0, hi0, hz0, hz1, hz2⟩ := info_parts info3
  go_enter Try.func35, Try.ntmps35
  go_wp2_with fail
  go_loopw [0, 4] (fun v0 v4 wr => ∃ (t : ByteArray) (f : Nat) (xs : List Int), v0 = .string t ∧ t.size ≤ f ∧ f ≤ 1000 ∧ xs.length + t.size ≤ 1000 ∧ Own wr 3 1 v4 xs.length (xs.map iV) ∧ Hid (∀ k, v4.ownBlock = some k → w.heap.size ≤ k) ∧ Below w.heap.size w wr ∧ Hid (pts s.data.toList = (ptsF f t.data.toList).map (xs ++ ·))) (fun v0 _ _ => match v0 with | .string t => t.size | _ => 0)
  case atStart => exact ⟨s, s.size, [], rfl, Nat.le_refl _, hm, by simpa using hm, Own.nil_ _ _ _, by simp [Hid, Value.ownBlock], Below.refl _ _, start_ s⟩
  case round =>
  obtain ⟨t, f, xs, rfl, hf, hf2, hx, hv, hkv, hbw, hp⟩ := hrel
  obtain ⟨Av, cv, rfl, -, -⟩ := hv.len_
  have HB := Lib.hid hbw
  have HV := Lib.hid hv
  clear hv hbw
  have hls : t.data.toList.length = t.size := by rw [Array.length_toList]; rfl
  by_cases h0 : t.size = 0
  · have F1 : ¬ 0 < t.size := by omega
    have HF : Hid (pts s.data.toList = some xs) := by
      show _ = _
      have hn : t.data.toList = [] := List.eq_nil_of_length_eq_zero (by omega)
      rw [hp.out, hn]
      cases f <;> simp [ptsF]
    clear hls h0
    go_wp2_with fail
    go_returns
    refine ⟨HB.out, ?_⟩
    rw [HF.out]
    exact ⟨_, rfl, HV.out, hkv.out⟩
  · have F1 : 0 < t.size := by omega
    obtain ⟨g, rfl⟩ : ∃ g, f = g + 1 := ⟨f - 1, by omega⟩
    obtain ⟨hn1, hn2⟩ := refP_bd t.data.toList (by omega)
    have HP : Hid (ptsF (g + 1) t.data.toList = if putL (refP t.data.toList).1 == t.data.toList.take (refP t.data.toList).2.toNat then (ptsF g (t.data.toList.drop (refP t.data.toList).2.toNat)).map ((refP t.data.toList).1 :: ·) else none) := by
      show _ = _
      rw [ptsF, if_neg (by cases hq : t.data.toList with | nil => rw [hq] at hls; simp at hls; omega | cons a b => simp)]
    have HGET := Lib.hid (refGet_any t (by omega) wr)
    obtain ⟨q, hq⟩ : ∃ q, refP t.data.toList = q := ⟨_, rfl⟩
    rw [hq] at hn1 hn2 HP HGET
    obtain ⟨r, kk⟩ := q
    obtain ⟨k, rfl⟩ : ∃ k : Nat, kk = k := ⟨kk.toNat, by show kk = _; simp only at hn1; omega⟩
    clear hq
    simp only [Int.toNat_natCast] at HP hn1 hn2 HGET
    have hkt : k ≤ t.size := by omega
    obtain ⟨d, hd⟩ : ∃ d, (putL r == (t.extract 0 k).toList) = d := ⟨_, rfl⟩
    rw [show (putL r == t.data.toList.take k) = d from by rw [← extract_take, ← toList_data, hd]] at HP
    have HPUT := Lib.hid (fun W => refPut_any r W)
    have hXl : (t.extract k t.size).data.toList = t.data.toList.drop k := extract_drop t k
    have hXs : (t.extract k t.size).size = t.size - k := by simp [ByteArray.size_extract]
    go_wp2_with fail
    refine HGET.out.mono ?_
    rintro e1 w1 ⟨rfl, hb1⟩
    have HB1 := Lib.hid (below_trans HB.out hb1)
    have HV1 := Lib.hid (HV.out.below hb1 (fun k hk => HV.out.lt hk))
    clear hb1
    go_wp2_with fail
    refine region_rows (by kernel_rfl) (fun W W' => Below W.heap.size W W')
      [.val (.int .i64 r),
       .val (.string ⟨(putL r).toArray⟩),
       .val (.string t),
       .val (.int .i64 (k : Int)),
       .val (.string (t.extract 0 k)),
       .val (.bool (!d))]
      (fun W => Below.refl _ W) (fun _ _ _ h k => below_trans h k) (by kernel_rfl) ?_ ?_
    · refine ⟨?_, ?_, ?_, ?_, ?_, ?_, trivial⟩
      · intro ra RW hR hk hd K hK
        obtain ⟨e5, g5⟩ := hk 5 (.int .i64 r) (by kernel_rfl) rfl
        clear hk hd
        have HR := Lib.hid hR
        clear hR
        go_simp
        exact hK _ _ (Below.refl _ _) rfl
      · intro ra RW hR hk hd K hK
        obtain ⟨v15, e15, g15, f15⟩ := hd 0 15 (by kernel_rfl) rfl
        have f15 : v15 = .int .i64 r := f15
        subst f15
        clear hk hd
        have HR := Lib.hid hR
        clear hR
        go_simp
        refine (HPUT.out RW).mono ?_
        rintro e w2 ⟨rfl, hb2⟩
        exact hK _ _ hb2 rfl
      · intro ra RW hR hk hd K hK
        obtain ⟨e0, g0⟩ := hk 0 (.string t) (by kernel_rfl) rfl
        clear hk hd
        have HR := Lib.hid hR
        clear hR
        go_simp
        exact hK _ _ (Below.refl _ _) rfl
      · intro ra RW hR hk hd K hK
        obtain ⟨e6, g6⟩ := hk 6 (.int .i64 (k : Int)) (by kernel_rfl) rfl
        clear hk hd
        have HR := Lib.hid hR
        clear hR
        go_simp
        exact hK _ _ (Below.refl _ _) rfl
      · intro ra RW hR hk hd K hK
        obtain ⟨v17, e17, g17, f17⟩ := hd 2 17 (by kernel_rfl) rfl
        have f17 : v17 = .string t := f17
        subst f17
        obtain ⟨v18, e18, g18, f18⟩ := hd 3 18 (by kernel_rfl) rfl
        have f18 : v18 = .int .i64 (k : Int) := f18
        subst f18
        clear hk hd
        have HR := Lib.hid hR
        clear hR
        go_simp
        exact hK _ _ (Below.refl _ _) rfl
      · intro ra RW hR hk hd K hK
        obtain ⟨v16, e16, g16, f16⟩ := hd 1 16 (by kernel_rfl) rfl
        have f16 : v16 = .string ⟨(putL r).toArray⟩ := f16
        subst f16
        obtain ⟨v19, e19, g19, f19⟩ := hd 4 19 (by kernel_rfl) rfl
        have f19 : v19 = .string (t.extract 0 k) := f19
        subst f19
        clear hk hd
        have HR := Lib.hid hR
        clear hR
        go_simp
        exact hK _ _ (Below.refl _ _) rfl
    intro vs RW hR hF
    have q0 : vs 0 = .int .i64 r := hF 0 (by decide)
    have q1 : vs 1 = .string ⟨(putL r).toArray⟩ := hF 1 (by decide)
    have q2 : vs 2 = .string t := hF 2 (by decide)
    have q3 : vs 3 = .int .i64 (k : Int) := hF 3 (by decide)
    have q4 : vs 4 = .string (t.extract 0 k) := hF 4 (by decide)
    have q5 : vs 5 = .bool (!d) := hF 5 (by decide)
    simp only [setAll, List.setIfInBounds_toArray, List.set_cons_zero, List.set_cons_succ, q0, q1, q2, q3, q4, q5]
    clear hF q0 q1 q2 q3 q4 q5
    clear vs
    have HB2 := Lib.hid (below_trans (Below.drew HB1.out) hR)
    have HV2 := Lib.hid (HV1.out.drew.below hR (fun k hk => HV1.out.drew.lt hk))
    clear hd hR
    generalize t.extract 0 k = u at *
    obtain ⟨X, hXX⟩ : ∃ X, t.extract k t.size = X := ⟨_, rfl⟩
    rw [hXX] at hXl hXs
    have hsl : ∀ W, (Instr.slice 9 (.string t) (some (.int .i64 (k : Int))) none none).run Try.prog W = .ok (.string X) W := fun W => by
      rw [← hXX]
      go_simp
    cases d with
    | false =>
      rw [if_neg (by decide)] at HP
      have HF : Hid (pts s.data.toList = none) := (by rw [hp.out, HP.out]; rfl)
      clear hXl hXs hXX hsl
      go_wp2_with fail
      go_returns
      refine ⟨HB2.out, ?_⟩
      rw [HF.out]
      exact rfl
    | true =>
      rw [if_pos rfl] at HP
      have HX : Hid (pts s.data.toList = (ptsF g X.data.toList).map ((xs ++ [r]) ++ ·)) := by
        show _ = _
        rw [hp.out, HP.out, hXl]
        cases ptsF g (t.data.toList.drop k) <;> simp
      clear hXl hXX
      have e1 : (xs ++ [r]).length = xs.length + 1 := by simp
      have e2 : (xs ++ [r]).map iV = xs.map iV ++ [.int .i64 r] := by rw [List.map_append]; rfl
      generalize xs ++ [r] = ys at *
      have E1 := Lib.hid e1
      have E2 := Lib.hid e2
      clear e1 e2
      generalize hm : xs.map iV = xv at *
      generalize xs.length = m at *
      clear hm
      go_wp2_with (at_builtin; refine wpList_append_mine _ rfl (.tmp 21) (.tmp 23) _ rfl 3 i0 _ 1 8 Try.underlying38 hi0 hz0 hz1 hz2 rfl (by omega) (.slice Av m cv) m xv rfl (by exact HV2.out.alloc _) _ 1 1 [_] rfl rfl (by exact news_push rfl rfl) (by simp [Value.oneCell']) (by omega) (by simp only [maxLen]; omega) (by omega) _ rfl ?_; intro g6 o6 c6 w6 hown6 hgrow6 hat6; have HO6 := Lib.hid hown6; have HB6 := Lib.hid (Below.grown (HB2.out.alloc HB2.out.size _) hgrow6 (by simp; have := HB2.out.size; omega) hkv.out); have HK6 : Hid (w.heap.size ≤ g6) := (by show _ ≤ _; rcases hat6 with h | h; exact hkv.out _ h; rw [h]; have := HB2.out.size; simp; omega); clear hown6 hgrow6 hat6)
      go_roundw
      case rel => exact ⟨X, g, ys, rfl, by omega, by omega, by rw [E1.out]; omega, by rw [E1.out, E2.out]; exact HO6.out, fun k hk => by simp [Value.ownBlock] at hk; rw [← hk]; exact HK6.out, HB6.out, HX.out⟩
      case measure => show X.size < t.size; omega
end Go.Proofs.Ytjfkppbfckgckaa
namespace Go.Proofs.Ytjfkppbfckgckaa
set_option maxRecDepth 20000
open Go.RowKit Go.Rb
attribute [local irreducible] Go.wpQuiet

theorem Rd.at0 {w : World} {B n : Nat} {A : Option Addr} {u : Int} {rest : List Int} (h : Rd w B 1 A n ((u :: rest).map iV)) :
    ∃ b off, A = some ⟨b, off, none⟩ ∧ b < B ∧ 1 ≤ n ∧ w.cell? ⟨b, off, none⟩ = some (.int .i64 u) := by
  have hn : 1 ≤ n := by have := h.1; simp at this; omega
  obtain ⟨b, off, hA, hb, hc⟩ := h.2 (by omega)
  exact ⟨b, off, hA, hb, hn, by simpa [iV] using hc 0 (by omega)⟩
theorem Rd.at1 {w : World} {B n : Nat} {A : Option Addr} {u v : Int} {rest : List Int} (h : Rd w B 1 A n ((u :: v :: rest).map iV)) :
    ∃ b off, A = some ⟨b, off, none⟩ ∧ b < B ∧ 2 ≤ n ∧ w.cell? ⟨b, off, none⟩ = some (.int .i64 u) ∧ w.cell? ⟨b, off + 1, none⟩ = some (.int .i64 v) := by
  have hn : 2 ≤ n := by have := h.1; simp at this; omega
  obtain ⟨b, off, hA, hb, hc⟩ := h.2 (by omega)
  exact ⟨b, off, hA, hb, hn, by simpa [iV] using hc 0 (by omega), by simpa [iV] using hc 1 (by omega)⟩

def isDig (x : Int) : Bool := decide (48 ≤ x ∧ x ≤ 57)
/-- One or two digits: the number, how many. -/
def num : List Int → Int × Nat
  | [] => (0, 0)
  | a :: rest => if isDig a then (match rest with
    | [] => (a - 48, 1)
    | b :: _ => if isDig b then (if 50 < (a - 48) * 10 + b - 48 then (0, 0) else ((a - 48) * 10 + b - 48, 2)) else (a - 48, 1)) else (0, 0)
def RetNum (p : Int × Nat) (w : World) (e : Ending) (w' : World) : Prop := e = .returned (.tuple #[.int .i64 p.1, .int .i64 (p.2 : Int)]) ∧ w' = w

set_option maxHeartbeats 400000 in
theorem number_0 (A : Option Addr) (c : Nat) (w : World) : Calls Try.prog 63 #[.slice A 0 c] w (RetNum (0, 0) w) := by
  go_enter Try.func63, Try.ntmps63
  go_wp2_with fail
  refine wp_loop_rounds 1 ?_
  rw [rounds_succ]
  go_wp2_with fail
  go_returns
  exact ⟨rfl, rfl⟩
set_option maxHeartbeats 400000 in
theorem number_lo (b off n c : Nat) (a : Int) (w : World) (hn : 1 ≤ n) (hc : n ≤ c) (c0 : w.cell? ⟨b, off, none⟩ = some (.int .i64 a)) (h1 : ¬ 48 ≤ a) : Calls Try.prog 63 #[.slice (some ⟨b, off, none⟩) n c] w (RetNum (0, 0) w) := by
  have F0 : 0 < n := hn
  go_enter Try.func63, Try.ntmps63
  go_wp2_with fail
  refine wp_loop_rounds 1 ?_
  rw [rounds_succ]
  go_wp2_with fail
  go_returns
  exact ⟨rfl, rfl⟩
set_option maxHeartbeats 400000 in
theorem number_hi (b off n c : Nat) (a : Int) (w : World) (hn : 1 ≤ n) (hc : n ≤ c) (c0 : w.cell? ⟨b, off, none⟩ = some (.int .i64 a)) (h1 : 48 ≤ a) (h2 : ¬ a ≤ 57) : Calls Try.prog 63 #[.slice (some ⟨b, off, none⟩) n c] w (RetNum (0, 0) w) := by
  have F0 : 0 < n := hn
  go_enter Try.func63, Try.ntmps63
  go_wp2_with fail
  refine wp_loop_rounds 1 ?_
  rw [rounds_succ]
  go_wp2_with fail
  go_returns
  exact ⟨rfl, rfl⟩
set_option maxHeartbeats 400000 in
theorem number_1 (b off c : Nat) (a : Int) (w : World) (hc : 1 ≤ c) (c0 : w.cell? ⟨b, off, none⟩ = some (.int .i64 a)) (h1 : 48 ≤ a) (h2 : a ≤ 57) : Calls Try.prog 63 #[.slice (some ⟨b, off, none⟩) 1 c] w (RetNum (a - 48, 1) w) := by
  have F1 : ¬ 50 < a - 48 := by omega
  go_enter Try.func63, Try.ntmps63
  go_wp2_with fail
  refine wp_loop_rounds 2 ?_
  rw [rounds_succ]
  go_wp2_with fail
  rw [rounds_succ]
  go_wp2_with fail
  go_returns
  exact ⟨rfl, rfl⟩
set_option maxHeartbeats 400000 in
theorem number_2lo (b off n c : Nat) (a d : Int) (w : World) (hn : 2 ≤ n) (hc : n ≤ c) (c0 : w.cell? ⟨b, off, none⟩ = some (.int .i64 a)) (c1 : w.cell? ⟨b, off + 1, none⟩ = some (.int .i64 d)) (h1 : 48 ≤ a) (h2 : a ≤ 57) (h3 : ¬ 48 ≤ d) : Calls Try.prog 63 #[.slice (some ⟨b, off, none⟩) n c] w (RetNum (a - 48, 1) w) := by
  have F0 : 0 < n := by omega
  have F2 : 1 < n := hn
  have F1 : ¬ 50 < a - 48 := by omega
  go_enter Try.func63, Try.ntmps63
  go_wp2_with fail
  refine wp_loop_rounds 2 ?_
  rw [rounds_succ]
  go_wp2_with fail
  rw [rounds_succ]
  go_wp2_with fail
  go_returns
  exact ⟨rfl, rfl⟩
set_option maxHeartbeats 400000 in
theorem number_2hi (b off n c : Nat) (a d : Int) (w : World) (hn : 2 ≤ n) (hc : n ≤ c) (c0 : w.cell? ⟨b, off, none⟩ = some (.int .i64 a)) (c1 : w.cell? ⟨b, off + 1, none⟩ = some (.int .i64 d)) (h1 : 48 ≤ a) (h2 : a ≤ 57) (h3 : 48 ≤ d) (h4 : ¬ d ≤ 57) : Calls Try.prog 63 #[.slice (some ⟨b, off, none⟩) n c] w (RetNum (a - 48, 1) w) := by
  have F0 : 0 < n := by omega
  have F2 : 1 < n := hn
  have F1 : ¬ 50 < a - 48 := by omega
  go_enter Try.func63, Try.ntmps63
  go_wp2_with fail
  refine wp_loop_rounds 2 ?_
  rw [rounds_succ]
  go_wp2_with fail
  rw [rounds_succ]
  go_wp2_with fail
  go_returns
  exact ⟨rfl, rfl⟩
set_option maxHeartbeats 400000 in
theorem number_2 (b off n c : Nat) (a d : Int) (w : World) (hn : 2 ≤ n) (hc : n ≤ c) (c0 : w.cell? ⟨b, off, none⟩ = some (.int .i64 a)) (c1 : w.cell? ⟨b, off + 1, none⟩ = some (.int .i64 d)) (h1 : 48 ≤ a) (h2 : a ≤ 57) (h3 : 48 ≤ d) (h4 : d ≤ 57) (h5 : ¬ 50 < (a - 48) * 10 + d - 48) : Calls Try.prog 63 #[.slice (some ⟨b, off, none⟩) n c] w (RetNum ((a - 48) * 10 + d - 48, 2) w) := by
  have F0 : 0 < n := by omega
  have F2 : 1 < n := hn
  go_enter Try.func63, Try.ntmps63
  go_wp2_with fail
  refine wp_loop_rounds 3 ?_
  rw [rounds_succ]
  go_wp2_with fail
  rw [rounds_succ]
  go_wp2_with fail
  rw [rounds_succ]
  go_wp2_with fail
  go_returns
  exact ⟨rfl, rfl⟩
set_option maxHeartbeats 400000 in
theorem number_2big (b off n c : Nat) (a d : Int) (w : World) (hn : 2 ≤ n) (hc : n ≤ c) (c0 : w.cell? ⟨b, off, none⟩ = some (.int .i64 a)) (c1 : w.cell? ⟨b, off + 1, none⟩ = some (.int .i64 d)) (h1 : 48 ≤ a) (h2 : a ≤ 57) (h3 : 48 ≤ d) (h4 : d ≤ 57) (h5 : 50 < (a - 48) * 10 + d - 48) : Calls Try.prog 63 #[.slice (some ⟨b, off, none⟩) n c] w (RetNum (0, 0) w) := by
  have F0 : 0 < n := by omega
  have F2 : 1 < n := hn
  go_enter Try.func63, Try.ntmps63
  go_wp2_with fail
  refine wp_loop_rounds 3 ?_
  rw [rounds_succ]
  go_wp2_with fail
  rw [rounds_succ]
  go_wp2_with fail
  rw [rounds_succ]
  go_wp2_with fail
  go_returns
  exact ⟨rfl, rfl⟩
theorem number_any (l : List Int) (A : Option Addr) (n c B : Nat) (w : World) (hr : Rd w B 1 A n (l.map iV)) (hc : n ≤ c) : Calls Try.prog 63 #[.slice A n c] w (RetNum (num l) w) := by
  have hl : l.length = n := by simpa using hr.1
  match l, hr, hl with
  | [], hr, hl =>
    obtain rfl : n = 0 := by simpa using hl.symm
    exact number_0 A c w
  | [a], hr, hl =>
    obtain rfl : n = 1 := by simpa using hl.symm
    obtain ⟨b, off, rfl, hb, hn, c0⟩ := Rd.at0 hr
    by_cases h1 : 48 ≤ a
    · by_cases h2 : a ≤ 57
      · rw [show num [a] = (a - 48, 1) by simp [num, isDig, h1, h2]]
        exact number_1 b off c a w hc c0 h1 h2
      · rw [show num [a] = (0, 0) by simp [num, isDig, h2]]
        exact number_hi b off 1 c a w (by omega) hc c0 h1 h2
    · rw [show num [a] = (0, 0) by simp [num, isDig, h1]]
      exact number_lo b off 1 c a w (by omega) hc c0 h1
  | a :: d :: rest, hr, hl =>
    obtain ⟨b, off, rfl, hb, hn, c0, c1⟩ := Rd.at1 hr
    by_cases h1 : 48 ≤ a
    · by_cases h2 : a ≤ 57
      · by_cases h3 : 48 ≤ d
        · by_cases h4 : d ≤ 57
          · by_cases h5 : 50 < (a - 48) * 10 + d - 48
            · rw [show num (a :: d :: rest) = (0, 0) by simp [num, isDig, h1, h2, h3, h4, h5]]
              exact number_2big b off n c a d w hn hc c0 c1 h1 h2 h3 h4 h5
            · rw [show num (a :: d :: rest) = ((a - 48) * 10 + d - 48, 2) by simp [num, isDig, h1, h2, h3, h4, h5]]
              exact number_2 b off n c a d w hn hc c0 c1 h1 h2 h3 h4 h5
          · rw [show num (a :: d :: rest) = (a - 48, 1) by simp [num, isDig, h1, h2, h4]]
            exact number_2hi b off n c a d w hn hc c0 c1 h1 h2 h3 h4
        · rw [show num (a :: d :: rest) = (a - 48, 1) by simp [num, isDig, h1, h2, h3]]
          exact number_2lo b off n c a d w hn hc c0 c1 h1 h2 h3
      · rw [show num (a :: d :: rest) = (0, 0) by simp [num, isDig, h2]]
        exact number_hi b off n c a w (by omega) hc c0 h1 h2
    · rw [show num (a :: d :: rest) = (0, 0) by simp [num, isDig, h1]]
      exact number_lo b off n c a w (by omega) hc c0 h1
end Go.Proofs.Ytjfkppbfckgckaa
