/-
  The contract of reedbedref01.Get; no condition beyond those that each theorem states.
-/
import Derived.Test.YtgfienopijlnkaaRefGet1
import Derived.Test.YtgfienopijlnkaaRegion
namespace Go.Proofs.Ytgfienopijlnkaa
open Go.RowKit Go.Rb

/-- Are the first k octets those of the code point that they say? -/
def okN (l : List UInt8) (k : Nat) : Bool := isB (valP (l.take k)) && (putL (valP (l.take k)) == l.take k)
def refAt (l : List UInt8) : Nat → Nat → Int × Int
  | 0, _ => badG
  | fuel + 1, k => if k ≤ 4 ∧ k ≤ l.length then (if okN l k = true then (valP (l.take k), (k : Int)) else refAt l fuel (k + 1)) else badG
/-- The code point at the beginning, by definition. -/
def refP (l : List UInt8) : Int × Int := if l.length = 0 then (65533, 0) else refAt l 5 1

theorem extract_take (s : ByteArray) (k : Nat) : (s.extract 0 k).data.toList = s.data.toList.take k := by
  rw [ByteArray.data_extract]
  simp [Array.toList_extract, List.extract]
theorem extract_size (s : ByteArray) (k : Nat) (h : k ≤ s.size) : (s.extract 0 k).size = k := by
  rw [ByteArray.size_extract]; omega

set_option maxHeartbeats 2000000 in
theorem refGet_some (s : ByteArray) (l : List UInt8) (hl : s.data.toList = l) (h0 : 0 < s.size) (hm : s.size ≤ 1000000) (w : World) (p : Int × Int) (hp : Hid (refAt l 5 1 = p)) :
    Calls Try.prog 15 #[.string s] w fun e w' => e = .returned (.tuple #[.int .i64 p.1, .int .i64 p.2]) ∧ Below w.heap.size w w' := by
  have hll : s.size = l.length := by rw [← hl]; simp
  have HL := Lib.hid hl
  have HLL := Lib.hid hll
  clear hl hll
  have hs0 : ((s.size : Int) == 0) = false := by rw [beq_eq_false_iff_ne]; omega
  go_enter Try.func15, Try.ntmps15
  go_wp2
  go_loopw [4] (fun i wr => ∃ k : Nat, 1 ≤ k ∧ k ≤ 5 ∧ i = .int .i64 k ∧ Hid (refAt l (6 - k) k = p) ∧ Below w.heap.size w wr) (fun i _ => 6 - (intOf i).toNat)
  case atStart => exact ⟨1, by omega, by omega, rfl, hp, Below.refl _ _⟩
  case round =>
    obtain ⟨k, hk1, hk5, rfl, hq, hbw⟩ := hrel
    have HB := Lib.hid hbw
    clear hbw hp
    by_cases hk : k ≤ 4 ∧ k ≤ s.size
    · obtain ⟨hk4, hks⟩ := hk
      have hq1 : Hid ((if okN l k = true then (valP (l.take k), (k : Int)) else refAt l (5 - k) (k + 1)) = p) := by
        have := hq.out
        rw [show 6 - k = (5 - k) + 1 by omega] at this
        unfold refAt at this
        rwa [if_pos ⟨hk4, by have := HLL.out; omega⟩] at this
      clear hq
      have HV := Lib.hid (value_any (s.extract 0 k) (by rw [extract_size s k hks]; omega) (by rw [extract_size s k hks]; omega))
      have HE := Lib.hid (extract_take s k)
      obtain ⟨x, hx⟩ : ∃ x, Hid (valP (l.take k) = x) := ⟨_, rfl⟩
      obtain ⟨z, hz⟩ : ∃ z, Hid (isB x = z) := ⟨_, rfl⟩
      go_wp2_with fail
      refine (HV.out _).mono ?_
      rintro e w' ⟨he, rfl⟩
      rw [HE.out, HL.out, hx.out] at he
      subst he
      -- REGION
      have HEQ : Hid ((putL x == (s.extract 0 k).toList) = (putL x == l.take k)) := by
        show _ = _
        rw [ByteArray.toList_eq, extract_take, HL.out]
      have hkz : (0 : Int) ≤ (k : Int) := by omega
      have hkn : (k : Int) ≤ (s.size : Int) := by omega
      have hi := refIs_any x
      rw [hz.out] at hi
      have HI := Lib.hid hi
      clear hi
      cases z
      · have hq2 : Hid (refAt l (5 - k) (k + 1) = p) := by
          have := hq1.out
          rwa [if_neg (by unfold okN; rw [hx.out, hz.out]; simp)] at this
        clear hq1
        go_wp2_with fail
        refine region_rows (by kernel_rfl) (fun W W' => Below W.heap.size W W')
          [.val (.int .i64 x),
           .val (.bool false),
           .val (.bool false),
           .val (undef),
           .val (undef),
           .val (undef),
           .val (undef),
           .val (undef),
           .val (undef),
           .val (.bool false)]
          (fun W => Below.refl _ W) (fun _ _ _ h k => below_trans h k) (by kernel_rfl) ?_ ?_
        · refine ⟨?_, ?_, ?_, ?_, ?_, ?_, ?_, ?_, ?_, ?_, trivial⟩
          · intro ra RW hR hk hd K hK
            obtain ⟨e5, g5⟩ := hk 5 (.int .i64 x) (by kernel_rfl) rfl
            clear hk hd
            have HR := Lib.hid hR
            clear hR
            go_simp
            exact hK _ _ (Below.refl _ _) rfl
          · intro ra RW hR hk hd K hK
            obtain ⟨v23, e23, g23, f23⟩ := hd 0 23 (by kernel_rfl) rfl
            have f23 : v23 = .int .i64 x := f23
            subst f23
            clear hk hd
            have HR := Lib.hid hR
            clear hR
            go_simp
            refine (HI.out _).mono ?_
            rintro e w2 ⟨rfl, rfl⟩
            exact hK _ _ (Below.refl _ _) rfl
          · intro ra RW hR hk hd K hK
            obtain ⟨v24, e24, g24, f24⟩ := hd 1 24 (by kernel_rfl) rfl
            have f24 : v24 = .bool false := f24
            subst f24
            clear hk hd
            have HR := Lib.hid hR
            clear hR
            go_simp
            exact hK _ _ (Below.refl _ _) rfl
          · intro ra RW hR hk hd K hK
            obtain ⟨e5, g5⟩ := hk 5 (.int .i64 x) (by kernel_rfl) rfl
            obtain ⟨v25, e25, g25, f25⟩ := hd 2 25 (by kernel_rfl) rfl
            have f25 : v25 = .bool false := f25
            subst f25
            clear hk hd
            have HR := Lib.hid hR
            clear hR
            go_simp
            exact hK _ _ (Below.refl _ _) rfl
          · intro ra RW hR hk hd K hK
            obtain ⟨v26, e26, g26, f26⟩ := hd 3 26 (by kernel_rfl) rfl
            have f26 : v26 = undef := f26
            subst f26
            obtain ⟨v25, e25, g25, f25⟩ := hd 2 25 (by kernel_rfl) rfl
            have f25 : v25 = .bool false := f25
            subst f25
            clear hk hd
            have HR := Lib.hid hR
            clear hR
            go_simp
            exact hK _ _ (Below.refl _ _) rfl
          · intro ra RW hR hk hd K hK
            obtain ⟨e0, g0⟩ := hk 0 (.string s) (by kernel_rfl) rfl
            obtain ⟨v25, e25, g25, f25⟩ := hd 2 25 (by kernel_rfl) rfl
            have f25 : v25 = .bool false := f25
            subst f25
            clear hk hd
            have HR := Lib.hid hR
            clear hR
            go_simp
            exact hK _ _ (Below.refl _ _) rfl
          · intro ra RW hR hk hd K hK
            obtain ⟨e4, g4⟩ := hk 4 (.int .i64 (k : Int)) (by kernel_rfl) rfl
            obtain ⟨v25, e25, g25, f25⟩ := hd 2 25 (by kernel_rfl) rfl
            have f25 : v25 = .bool false := f25
            subst f25
            clear hk hd
            have HR := Lib.hid hR
            clear hR
            go_simp
            exact hK _ _ (Below.refl _ _) rfl
          · intro ra RW hR hk hd K hK
            obtain ⟨v28, e28, g28, f28⟩ := hd 5 28 (by kernel_rfl) rfl
            have f28 : v28 = undef := f28
            subst f28
            obtain ⟨v29, e29, g29, f29⟩ := hd 6 29 (by kernel_rfl) rfl
            have f29 : v29 = undef := f29
            subst f29
            obtain ⟨v25, e25, g25, f25⟩ := hd 2 25 (by kernel_rfl) rfl
            have f25 : v25 = .bool false := f25
            subst f25
            clear hk hd
            have HR := Lib.hid hR
            clear hR
            go_simp
            exact hK _ _ (Below.refl _ _) rfl
          · intro ra RW hR hk hd K hK
            obtain ⟨v27, e27, g27, f27⟩ := hd 4 27 (by kernel_rfl) rfl
            have f27 : v27 = undef := f27
            subst f27
            obtain ⟨v30, e30, g30, f30⟩ := hd 7 30 (by kernel_rfl) rfl
            have f30 : v30 = undef := f30
            subst f30
            obtain ⟨v25, e25, g25, f25⟩ := hd 2 25 (by kernel_rfl) rfl
            have f25 : v25 = .bool false := f25
            subst f25
            clear hk hd
            have HR := Lib.hid hR
            clear hR
            go_simp
            exact hK _ _ (Below.refl _ _) rfl
          · intro ra RW hR hk hd K hK
            obtain ⟨v25, e25, g25, f25⟩ := hd 2 25 (by kernel_rfl) rfl
            have f25 : v25 = .bool false := f25
            subst f25
            obtain ⟨v31, e31, g31, f31⟩ := hd 8 31 (by kernel_rfl) rfl
            have f31 : v31 = undef := f31
            subst f31
            clear hk hd
            have HR := Lib.hid hR
            clear hR
            go_simp
            exact hK _ _ (Below.refl _ _) rfl
        intro vs RW hR hF
        have q0 : vs 0 = .int .i64 x := hF 0 (by decide)
        have q1 : vs 1 = .bool false := hF 1 (by decide)
        have q2 : vs 2 = .bool false := hF 2 (by decide)
        have q3 : vs 3 = undef := hF 3 (by decide)
        have q4 : vs 4 = undef := hF 4 (by decide)
        have q5 : vs 5 = undef := hF 5 (by decide)
        have q6 : vs 6 = undef := hF 6 (by decide)
        have q7 : vs 7 = undef := hF 7 (by decide)
        have q8 : vs 8 = undef := hF 8 (by decide)
        have q9 : vs 9 = .bool false := hF 9 (by decide)
        simp only [setAll, List.setIfInBounds_toArray, List.set_cons_zero, List.set_cons_succ, q0, q1, q2, q3, q4, q5, q6, q7, q8, q9]
        clear hF q0 q1 q2 q3 q4 q5 q6 q7 q8 q9
        clear vs
        have hb2 := below_trans HB.out.drew hR
        clear hR
        go_wp2
        go_roundw
        case rel =>
            have he : 6 - (k + 1) = 5 - k := by omega
            rw [← he] at hq2
            exact ⟨k + 1, by omega, by omega, by go_num, hq2, hb2⟩
        case measure => simp [intOf]; omega
      · obtain ⟨b, hb⟩ : ∃ b, Hid ((putL x == l.take k) = b) := ⟨_, rfl⟩
        go_wp2_with fail
        refine region_rows (by kernel_rfl) (fun W W' => Below W.heap.size W W')
          [.val (.int .i64 x),
           .val (.bool true),
           .val (.bool true),
           .val (.int .i64 x),
           .val (.string ⟨(putL x).toArray⟩),
           .val (.string s),
           .val (.int .i64 (k : Int)),
           .val (.string (s.extract 0 k)),
           .val (.bool (putL x == l.take k)),
           .val (.bool (putL x == l.take k))]
          (fun W => Below.refl _ W) (fun _ _ _ h k => below_trans h k) (by kernel_rfl) ?_ ?_
        · refine ⟨?_, ?_, ?_, ?_, ?_, ?_, ?_, ?_, ?_, ?_, trivial⟩
          · intro ra RW hR hk hd K hK
            obtain ⟨e5, g5⟩ := hk 5 (.int .i64 x) (by kernel_rfl) rfl
            clear hk hd
            have HR := Lib.hid hR
            clear hR
            go_simp
            exact hK _ _ (Below.refl _ _) rfl
          · intro ra RW hR hk hd K hK
            obtain ⟨v23, e23, g23, f23⟩ := hd 0 23 (by kernel_rfl) rfl
            have f23 : v23 = .int .i64 x := f23
            subst f23
            clear hk hd
            have HR := Lib.hid hR
            clear hR
            go_simp
            refine (HI.out _).mono ?_
            rintro e w2 ⟨rfl, rfl⟩
            exact hK _ _ (Below.refl _ _) rfl
          · intro ra RW hR hk hd K hK
            obtain ⟨v24, e24, g24, f24⟩ := hd 1 24 (by kernel_rfl) rfl
            have f24 : v24 = .bool true := f24
            subst f24
            clear hk hd
            have HR := Lib.hid hR
            clear hR
            go_simp
            exact hK _ _ (Below.refl _ _) rfl
          · intro ra RW hR hk hd K hK
            obtain ⟨e5, g5⟩ := hk 5 (.int .i64 x) (by kernel_rfl) rfl
            obtain ⟨v25, e25, g25, f25⟩ := hd 2 25 (by kernel_rfl) rfl
            have f25 : v25 = .bool true := f25
            subst f25
            clear hk hd
            have HR := Lib.hid hR
            clear hR
            go_simp
            exact hK _ _ (Below.refl _ _) rfl
          · intro ra RW hR hk hd K hK
            obtain ⟨v26, e26, g26, f26⟩ := hd 3 26 (by kernel_rfl) rfl
            have f26 : v26 = .int .i64 x := f26
            subst f26
            obtain ⟨v25, e25, g25, f25⟩ := hd 2 25 (by kernel_rfl) rfl
            have f25 : v25 = .bool true := f25
            subst f25
            clear hk hd
            have HR := Lib.hid hR
            clear hR
            go_simp
            refine (refPut_any x _).mono ?_
            rintro e w2 ⟨rfl, hb2⟩
            exact hK _ _ hb2 rfl
          · intro ra RW hR hk hd K hK
            obtain ⟨e0, g0⟩ := hk 0 (.string s) (by kernel_rfl) rfl
            obtain ⟨v25, e25, g25, f25⟩ := hd 2 25 (by kernel_rfl) rfl
            have f25 : v25 = .bool true := f25
            subst f25
            clear hk hd
            have HR := Lib.hid hR
            clear hR
            go_simp
            exact hK _ _ (Below.refl _ _) rfl
          · intro ra RW hR hk hd K hK
            obtain ⟨e4, g4⟩ := hk 4 (.int .i64 (k : Int)) (by kernel_rfl) rfl
            obtain ⟨v25, e25, g25, f25⟩ := hd 2 25 (by kernel_rfl) rfl
            have f25 : v25 = .bool true := f25
            subst f25
            clear hk hd
            have HR := Lib.hid hR
            clear hR
            go_simp
            exact hK _ _ (Below.refl _ _) rfl
          · intro ra RW hR hk hd K hK
            obtain ⟨v28, e28, g28, f28⟩ := hd 5 28 (by kernel_rfl) rfl
            have f28 : v28 = .string s := f28
            subst f28
            obtain ⟨v29, e29, g29, f29⟩ := hd 6 29 (by kernel_rfl) rfl
            have f29 : v29 = .int .i64 (k : Int) := f29
            subst f29
            obtain ⟨v25, e25, g25, f25⟩ := hd 2 25 (by kernel_rfl) rfl
            have f25 : v25 = .bool true := f25
            subst f25
            clear hk hd
            have HR := Lib.hid hR
            clear hR
            go_simp
            exact hK _ _ (Below.refl _ _) rfl
          · intro ra RW hR hk hd K hK
            obtain ⟨v27, e27, g27, f27⟩ := hd 4 27 (by kernel_rfl) rfl
            have f27 : v27 = .string ⟨(putL x).toArray⟩ := f27
            subst f27
            obtain ⟨v30, e30, g30, f30⟩ := hd 7 30 (by kernel_rfl) rfl
            have f30 : v30 = .string (s.extract 0 k) := f30
            subst f30
            obtain ⟨v25, e25, g25, f25⟩ := hd 2 25 (by kernel_rfl) rfl
            have f25 : v25 = .bool true := f25
            subst f25
            clear hk hd
            have HR := Lib.hid hR
            clear hR
            go_simp
            rw [HEQ.out]
            exact hK _ _ (Below.refl _ _) rfl
          · intro ra RW hR hk hd K hK
            obtain ⟨v25, e25, g25, f25⟩ := hd 2 25 (by kernel_rfl) rfl
            have f25 : v25 = .bool true := f25
            subst f25
            obtain ⟨v31, e31, g31, f31⟩ := hd 8 31 (by kernel_rfl) rfl
            have f31 : v31 = .bool (putL x == l.take k) := f31
            subst f31
            clear hk hd
            have HR := Lib.hid hR
            clear hR
            go_simp
            exact hK _ _ (Below.refl _ _) rfl
        intro vs RW hR hF
        have q0 : vs 0 = .int .i64 x := hF 0 (by decide)
        have q1 : vs 1 = .bool true := hF 1 (by decide)
        have q2 : vs 2 = .bool true := hF 2 (by decide)
        have q3 : vs 3 = .int .i64 x := hF 3 (by decide)
        have q4 : vs 4 = .string ⟨(putL x).toArray⟩ := hF 4 (by decide)
        have q5 : vs 5 = .string s := hF 5 (by decide)
        have q6 : vs 6 = .int .i64 (k : Int) := hF 6 (by decide)
        have q7 : vs 7 = .string (s.extract 0 k) := hF 7 (by decide)
        have q8 : vs 8 = .bool (putL x == l.take k) := hF 8 (by decide)
        have q9 : vs 9 = .bool (putL x == l.take k) := hF 9 (by decide)
        simp only [setAll, List.setIfInBounds_toArray, List.set_cons_zero, List.set_cons_succ, q0, q1, q2, q3, q4, q5, q6, q7, q8, q9]
        clear hF q0 q1 q2 q3 q4 q5 q6 q7 q8 q9
        clear vs
        have hb2 := below_trans HB.out.drew hR
        clear hR
        rw [hb.out]
        cases b
        · have hq2 : Hid (refAt l (5 - k) (k + 1) = p) := by
            have := hq1.out
            rwa [if_neg (by unfold okN; rw [hx.out, hz.out, hb.out]; simp)] at this
          clear hq1
          go_wp2
          go_roundw
          case rel =>
            have he : 6 - (k + 1) = 5 - k := by omega
            rw [← he] at hq2
            exact ⟨k + 1, by omega, by omega, by go_num, hq2, hb2⟩
          case measure => simp [intOf]; omega
        · have hq2 : Hid (((x, (k : Int)) : Int × Int) = p) := by
            have := hq1.out
            rwa [if_pos (by unfold okN; rw [hx.out, hz.out, hb.out]; rfl), hx.out] at this
          clear hq1
          go_wp2
          go_ret2
          exact ⟨by rw [← hq2.out]; first | done | rfl, hb2⟩
    · have hq2 : Hid (badG = p) := by
        have := hq.out
        rcases (by omega : 6 - k = 0 ∨ 6 - k = (5 - k) + 1) with h | h
        · omega
        · rw [h] at this
          unfold refAt at this
          rwa [if_neg (by have := HLL.out; omega)] at this
      clear hq
      by_cases hk4 : k ≤ 4
      all_goals
        go_wp2
        go_ret2
        exact ⟨by rw [← hq2.out]; rfl, HB.out⟩

set_option maxHeartbeats 400000 in
theorem refGet_any (s : ByteArray) (hm : s.size ≤ 1000000) (w : World) :
    Calls Try.prog 15 #[.string s] w fun e w' => e = .returned (.tuple #[.int .i64 (refP s.data.toList).1, .int .i64 (refP s.data.toList).2]) ∧ Below w.heap.size w w' := by
  by_cases h : s.size = 0
  · have hp : refP s.data.toList = (65533, 0) := by
      unfold refP
      rw [if_pos (by simpa using h)]
    rw [hp]
    clear hp
    go_enter Try.func15, Try.ntmps15
    go_wp2
    go_ret2
    exact ⟨rfl, Below.refl _ _⟩
  · have hp : refP s.data.toList = refAt s.data.toList 5 1 := by
      unfold refP
      rw [if_neg (by simpa using h)]
    rw [hp]
    exact refGet_some s _ rfl (by omega) hm w _ rfl
end Go.Proofs.Ytgfienopijlnkaa
