/-
  The contract of reedbedref01.Put; no condition beyond those that the theorem states.
-/
import Derived.Test.YtgfienopijlnkaaCode2
import Derived.LoopN
namespace Go.Proofs.Ytgfienopijlnkaa
open Go.RowKit Go.Rb

def strV (bs : List UInt8) : Value := .string ⟨bs.toArray⟩
/-- string of a literal of one octet. -/
theorem conv_one (W : World) (g : Nat) (x : Int) (hg : g = W.heap.size) :
    (convert 67 9 (.slice (some ⟨g, 0, none⟩) 1 1)).run Try.prog (W.alloc (.cells #[.int .u8 x] 5)) = .ok (.string ⟨#[by_ x]⟩) (W.alloc (.cells #[.int .u8 x] 5)) := by
  have h := run_convert_bytes_arg (P := Try.prog) (W.alloc (.cells #[.int .u8 x] 5)) 67 5 Try.underlying67 Try.underlying5 g 0 1 1 [x] rfl
    (fun i hi => by
      obtain rfl : i = 0 := by omega
      rw [hg]
      have := (Blk.new W 5 #[.int .u8 x]).cell 0
      simp [this]) 9 Try.underlying9
  rw [h]
  rfl

theorem cat_ (a b : List UInt8) : (⟨a.toArray⟩ : ByteArray) ++ ⟨b.toArray⟩ = ⟨(a ++ b).toArray⟩ := by
  apply ByteArray.ext
  simp [ByteArray.data_append]
theorem ret_str {a b : ByteArray} (h : a = b) : Ending.returned (.string a) = Ending.returned (.string b) := by rw [h]

set_option maxHeartbeats 1000000 in
theorem refPut_2 (r : Int) (w : World) (hb : isB r = true) (h2 : 128 ≤ r) (h3 : r < 2048) (hs : sizeI r = 2) : Calls Try.prog 16 #[.int .i64 r] w fun e w' => e = .returned (strV (put2 r)) ∧ Below w.heap.size w w' := by
  have hc := refIs_any r
  have hd := refSize_any r
  rw [hb] at hc
  rw [hs] at hd
  have HC := Lib.hid hc
  have HD := Lib.hid hd
  clear hc hd hb
  have kc := conv_one
  go_enter Try.func16, Try.ntmps16
  go_wp2_with (first
    | (go_at_call 26; refine (HC.out _).mono ?_; rintro e w' ⟨rfl, rfl⟩)
    | (go_at_call 27; refine (HD.out _).mono ?_; rintro e w' ⟨rfl, rfl⟩))
  refine wp_loop_rounds 2 ?_
  rw [rounds_succ]
  go_wp2
  rw [rounds_succ]
  go_wp2
  go_ret
  refine ⟨ret_str (by first | rfl | (simp only [show ∀ a : UInt8, (⟨#[a]⟩ : ByteArray) = ⟨[a].toArray⟩ from fun _ => rfl, show (⟨#[]⟩ : ByteArray) = ⟨([] : List UInt8).toArray⟩ from rfl, cat_, show r / 64 / 64 = r / 4096 by omega, show r / 4096 / 64 = r / 262144 by omega]; rfl)), ?_⟩
  repeat (first | exact Below.refl _ _ | refine below_al ?_ _)

set_option maxHeartbeats 1000000 in
theorem refPut_3 (r : Int) (w : World) (hb : isB r = true) (h2 : 2048 ≤ r) (h3 : r < 65536) (hs : sizeI r = 3) : Calls Try.prog 16 #[.int .i64 r] w fun e w' => e = .returned (strV (put3 r)) ∧ Below w.heap.size w w' := by
  have hc := refIs_any r
  have hd := refSize_any r
  rw [hb] at hc
  rw [hs] at hd
  have HC := Lib.hid hc
  have HD := Lib.hid hd
  clear hc hd hb
  have kc := conv_one
  go_enter Try.func16, Try.ntmps16
  go_wp2_with (first
    | (go_at_call 26; refine (HC.out _).mono ?_; rintro e w' ⟨rfl, rfl⟩)
    | (go_at_call 27; refine (HD.out _).mono ?_; rintro e w' ⟨rfl, rfl⟩))
  refine wp_loop_rounds 3 ?_
  rw [rounds_succ]
  go_wp2
  rw [rounds_succ]
  go_wp2
  rw [rounds_succ]
  go_wp2
  go_ret
  refine ⟨ret_str (by first | rfl | (simp only [show ∀ a : UInt8, (⟨#[a]⟩ : ByteArray) = ⟨[a].toArray⟩ from fun _ => rfl, show (⟨#[]⟩ : ByteArray) = ⟨([] : List UInt8).toArray⟩ from rfl, cat_, show r / 64 / 64 = r / 4096 by omega, show r / 4096 / 64 = r / 262144 by omega]; rfl)), ?_⟩
  repeat (first | exact Below.refl _ _ | refine below_al ?_ _)

set_option maxHeartbeats 1000000 in
theorem refPut_4 (r : Int) (w : World) (hb : isB r = true) (h2 : 65536 ≤ r) (h3 : r < 1114112) (hs : sizeI r = 4) : Calls Try.prog 16 #[.int .i64 r] w fun e w' => e = .returned (strV (put4 r)) ∧ Below w.heap.size w w' := by
  have hc := refIs_any r
  have hd := refSize_any r
  rw [hb] at hc
  rw [hs] at hd
  have HC := Lib.hid hc
  have HD := Lib.hid hd
  clear hc hd hb
  have kc := conv_one
  go_enter Try.func16, Try.ntmps16
  go_wp2_with (first
    | (go_at_call 26; refine (HC.out _).mono ?_; rintro e w' ⟨rfl, rfl⟩)
    | (go_at_call 27; refine (HD.out _).mono ?_; rintro e w' ⟨rfl, rfl⟩))
  refine wp_loop_rounds 4 ?_
  rw [rounds_succ]
  go_wp2
  rw [rounds_succ]
  go_wp2
  rw [rounds_succ]
  go_wp2
  rw [rounds_succ]
  go_wp2
  go_ret
  refine ⟨ret_str (by first | rfl | (simp only [show ∀ a : UInt8, (⟨#[a]⟩ : ByteArray) = ⟨[a].toArray⟩ from fun _ => rfl, show (⟨#[]⟩ : ByteArray) = ⟨([] : List UInt8).toArray⟩ from rfl, cat_, show r / 64 / 64 = r / 4096 by omega, show r / 4096 / 64 = r / 262144 by omega]; rfl)), ?_⟩
  repeat (first | exact Below.refl _ _ | refine below_al ?_ _)

set_option maxHeartbeats 1000000 in
theorem refPut_wrong (r : Int) (w : World) (hb : isB r = false) : Calls Try.prog 16 #[.int .i64 r] w fun e w' => e = .returned (strV (put3 65533)) ∧ Below w.heap.size w w' := by
  have hc := refIs_any r
  have hd := refSize_any 65533
  rw [hb] at hc
  rw [show sizeI 65533 = 3 by decide] at hd
  have HC := Lib.hid hc
  have HD := Lib.hid hd
  clear hc hd hb
  have kc := conv_one
  go_enter Try.func16, Try.ntmps16
  go_wp2_with (first
    | (go_at_call 26; refine (HC.out _).mono ?_; rintro e w' ⟨rfl, rfl⟩)
    | (go_at_call 27; refine (HD.out _).mono ?_; rintro e w' ⟨rfl, rfl⟩))
  refine wp_loop_rounds 3 ?_
  rw [rounds_succ]
  go_wp2
  rw [rounds_succ]
  go_wp2
  rw [rounds_succ]
  go_wp2
  go_ret
  refine ⟨ret_str (by first | rfl | (simp only [show ∀ a : UInt8, (⟨#[a]⟩ : ByteArray) = ⟨[a].toArray⟩ from fun _ => rfl, show (⟨#[]⟩ : ByteArray) = ⟨([] : List UInt8).toArray⟩ from rfl, cat_, show r / 64 / 64 = r / 4096 by omega, show r / 4096 / 64 = r / 262144 by omega]; rfl)), ?_⟩
  repeat (first | exact Below.refl _ _ | refine below_al ?_ _)

set_option maxHeartbeats 1000000 in
theorem refPut_1 (r : Int) (w : World) (hb : isB r = true) (h2 : 0 ≤ r) (h3 : r < 128) (hs : sizeI r = 1) : Calls Try.prog 16 #[.int .i64 r] w fun e w' => e = .returned (strV [by_ r]) ∧ Below w.heap.size w w' := by
  have hc := refIs_any r
  have hd := refSize_any r
  rw [hb] at hc
  rw [hs] at hd
  have HC := Lib.hid hc
  have HD := Lib.hid hd
  clear hc hd hb
  have kc := conv_one
  go_enter Try.func16, Try.ntmps16
  go_wp2_with (first
    | (go_at_call 26; refine (HC.out _).mono ?_; rintro e w' ⟨rfl, rfl⟩)
    | (go_at_call 27; refine (HD.out _).mono ?_; rintro e w' ⟨rfl, rfl⟩))
  go_ret
  exact ⟨rfl, (Below.refl _ _).alloc (Nat.le_refl _) _⟩

theorem refPut_any (r : Int) (w : World) : Calls Try.prog 16 #[.int .i64 r] w fun e w' => e = .returned (strV (putL r)) ∧ Below w.heap.size w w' := by
  unfold putL
  rcases size_cases r with ⟨hb, hs⟩ | ⟨hb, h0, h1, ⟨h2, hs⟩ | ⟨h2, h3, hs⟩ | ⟨h2, h3, hs⟩ | ⟨h2, hs⟩⟩
  · have := refPut_wrong r w hb
    simpa [putV, hb] using this
  · have := refPut_1 r w hb h0 h2 hs
    rwa [if_pos hb, show putV r = [by_ r] by unfold putV; rw [if_pos h2]]
  · have := refPut_2 r w hb h2 h3 hs
    rwa [if_pos hb, show putV r = put2 r by unfold putV; rw [if_neg (by omega), if_pos h3]]
  · have := refPut_3 r w hb h2 h3 hs
    rwa [if_pos hb, show putV r = put3 r by unfold putV; rw [if_neg (by omega), if_neg (by omega), if_pos h3]]
  · have := refPut_4 r w hb h2 (by omega) hs
    rwa [if_pos hb, show putV r = put4 r by unfold putV; rw [if_neg (by omega), if_neg (by omega), if_neg (by omega)]]
end Go.Proofs.Ytgfienopijlnkaa
