/-
  The contracts of reedbedref02's functions Mark and Sure; no condition beyond those that each theorem states.
-/
import Derived.Test.YtoagjhhdijebmaaMark1
namespace Go.Proofs.Ytoagjhhdijebmaa
open Go.RowKit Go.Rb
attribute [local irreducible] Go.wpQuiet

theorem u8eq (x : UInt8) (k : UInt8) : ((x.toNat : Int) = (k.toNat : Int)) ↔ x = k := by
  constructor
  · intro h
    exact UInt8.toNat_inj.1 (by omega)
  · rintro rfl; rfl
theorem markP_3 (x y z : UInt8) (r : List UInt8) : markP (x :: y :: z :: r) = if (x.toNat : Int) = 239 ∧ (y.toNat : Int) = 187 ∧ (z.toNat : Int) = 191 then (1, 3) else if (x.toNat : Int) = 255 ∧ (y.toNat : Int) = 254 then (2, 2) else if (x.toNat : Int) = 254 ∧ (y.toNat : Int) = 255 then (3, 2) else (0, 0) := by
  have e1 : (prefB (x :: y :: z :: r) mk1 = true) ↔ ((x.toNat : Int) = 239 ∧ (y.toNat : Int) = 187 ∧ (z.toNat : Int) = 191) := by
    have h1 := u8eq x 239; have h2 := u8eq y 187; have h3 := u8eq z 191
    rw [show ((239 : UInt8).toNat : Int) = 239 from rfl] at h1
    rw [show ((187 : UInt8).toNat : Int) = 187 from rfl] at h2
    rw [show ((191 : UInt8).toNat : Int) = 191 from rfl] at h3
    rw [h1, h2, h3]
    simp [prefB, mk1]
  have e2 : (prefB (x :: y :: z :: r) mk2 = true) ↔ ((x.toNat : Int) = 255 ∧ (y.toNat : Int) = 254) := by
    have h1 := u8eq x 255; have h2 := u8eq y 254
    rw [show ((255 : UInt8).toNat : Int) = 255 from rfl] at h1
    rw [show ((254 : UInt8).toNat : Int) = 254 from rfl] at h2
    rw [h1, h2]
    simp [prefB, mk2]
  have e3 : (prefB (x :: y :: z :: r) mk3 = true) ↔ ((x.toNat : Int) = 254 ∧ (y.toNat : Int) = 255) := by
    have h1 := u8eq x 254; have h2 := u8eq y 255
    rw [show ((254 : UInt8).toNat : Int) = 254 from rfl] at h1
    rw [show ((255 : UInt8).toNat : Int) = 255 from rfl] at h2
    rw [h1, h2]
    simp [prefB, mk3]
  unfold markP
  simp only [e1, e2, e3]
theorem markP_2 (x y : UInt8) : markP [x, y] = if (x.toNat : Int) = 255 ∧ (y.toNat : Int) = 254 then (2, 2) else if (x.toNat : Int) = 254 ∧ (y.toNat : Int) = 255 then (3, 2) else (0, 0) := by
  have e1 : prefB [x, y] mk1 = false := by simp [prefB, mk1]
  have e2 : (prefB [x, y] mk2 = true) ↔ ((x.toNat : Int) = 255 ∧ (y.toNat : Int) = 254) := by
    have h1 := u8eq x 255; have h2 := u8eq y 254
    rw [show ((255 : UInt8).toNat : Int) = 255 from rfl] at h1
    rw [show ((254 : UInt8).toNat : Int) = 254 from rfl] at h2
    rw [h1, h2]
    simp [prefB, mk2]
  have e3 : (prefB [x, y] mk3 = true) ↔ ((x.toNat : Int) = 254 ∧ (y.toNat : Int) = 255) := by
    have h1 := u8eq x 254; have h2 := u8eq y 255
    rw [show ((254 : UInt8).toNat : Int) = 254 from rfl] at h1
    rw [show ((255 : UInt8).toNat : Int) = 255 from rfl] at h2
    rw [h1, h2]
    simp [prefB, mk3]
  unfold markP
  rw [e1]
  simp only [e2, e3, Bool.false_eq_true, if_false]
theorem markP_1 (x : UInt8) : markP [x] = (0, 0) := by simp [markP, prefB, mk1, mk2, mk3]
theorem ret_pair {a b c d : Int} (h : a = b) (k : c = d) : Ending.returned (.tuple #[.int .i64 a, .int .i64 c]) = Ending.returned (.tuple #[.int .i64 b, .int .i64 d]) := by rw [h, k]
set_option maxHeartbeats 4000000 in
theorem refMark_any (b : List UInt8) (w : World) (hn : b.length ≤ 1000000) : Calls Try.prog 11 #[.string ⟨b.toArray⟩] w fun e w' => e = .returned (.tuple #[.int .i64 (markP b).1, .int .i64 (markP b).2]) ∧ w = w' := by
  have HIX := Lib.hid (idx_bs b b.length rfl)
  have hsz : (⟨b.toArray⟩ : ByteArray).size = b.length := by simp [ByteArray.size]
  match b, hn, HIX, hsz with
  | [], _, HIX, hsz =>
    clear HIX
    rw [show markP [] = (0, 0) from by decide]
    generalize (⟨([] : List UInt8).toArray⟩ : ByteArray) = s at *
    simp only [List.length_nil] at hsz
    go_enter Try.func11, Try.ntmps11
    go_wp2
    go_ret2
    exact ⟨rfl, rfl⟩
  | [x], _, HIX, hsz =>
    have i0 := HIX.out 0 (by simp)
    rw [markP_1 x]
    simp only [List.length_cons, List.length_nil] at hsz
    generalize (⟨[x].toArray⟩ : ByteArray) = s at *
    clear HIX
    go_enter Try.func11, Try.ntmps11
    go_wp2
    go_ret2
    exact ⟨rfl, rfl⟩
  | [x, y], _, HIX, hsz =>
    have i0 : ∀ w, (Instr.index 9 (.string ⟨[x, y].toArray⟩) (.int .i64 0)).run Try.prog w = .ok (.int .u8 (x.toNat : Int)) w := HIX.out 0 (by simp)
    have i1 : ∀ w, (Instr.index 9 (.string ⟨[x, y].toArray⟩) (.int .i64 1)).run Try.prog w = .ok (.int .u8 (y.toNat : Int)) w := HIX.out 1 (by simp)
    have hm := markP_2 x y
    simp only [List.length_cons, List.length_nil] at hsz
    generalize markP [x, y] = m at *
    generalize (⟨[x, y].toArray⟩ : ByteArray) = s at *
    generalize x.toNat = xn at *
    generalize y.toNat = yn at *
    have HM := Lib.hid hm
    clear HIX hm
    go_enter Try.func11, Try.ntmps11
    go_wp2
    all_goals (
      go_ret2
      have hm := HM.out
      clear HM
      refine ⟨?_, rfl⟩
      repeat' (split at hm)
      all_goals (first | (rw [hm]; done) | (exfalso; omega) | (exfalso; simp only [beq_iff_eq, beq_eq_false_iff_ne, ne_eq] at *; omega) | (rw [hm]; rfl) | skip))
  | x :: y :: z :: r, hn, HIX, hsz =>
    have i0 : ∀ w, (Instr.index 9 (.string ⟨(x :: y :: z :: r).toArray⟩) (.int .i64 0)).run Try.prog w = .ok (.int .u8 (x.toNat : Int)) w := HIX.out 0 (by simp)
    have i1 : ∀ w, (Instr.index 9 (.string ⟨(x :: y :: z :: r).toArray⟩) (.int .i64 1)).run Try.prog w = .ok (.int .u8 (y.toNat : Int)) w := HIX.out 1 (by simp)
    have i2 : ∀ w, (Instr.index 9 (.string ⟨(x :: y :: z :: r).toArray⟩) (.int .i64 2)).run Try.prog w = .ok (.int .u8 (z.toNat : Int)) w := HIX.out 2 (by simp)
    have hm := markP_3 x y z r
    simp only [List.length_cons] at hsz hn
    generalize markP (x :: y :: z :: r) = m at *
    generalize (⟨(x :: y :: z :: r).toArray⟩ : ByteArray) = s at *
    generalize x.toNat = xn at *
    generalize y.toNat = yn at *
    generalize z.toNat = zn at *
    have HM := Lib.hid hm
    have h3 : (3 : Int) ≤ (r.length : Int) + 1 + 1 + 1 := by omega
    have h2 : (2 : Int) ≤ (r.length : Int) + 1 + 1 + 1 := by omega
    clear HIX hm
    go_enter Try.func11, Try.ntmps11
    go_wp2
    all_goals (
      go_ret2
      have hm := HM.out
      clear HM
      refine ⟨?_, rfl⟩
      repeat' (split at hm)
      all_goals (first | (rw [hm]; done) | (exfalso; omega) | (exfalso; simp only [beq_iff_eq, beq_eq_false_iff_ne, ne_eq] at *; omega) | (rw [hm]; rfl) | skip))

set_option maxHeartbeats 4000000 in
theorem refSure_any (b : List UInt8) (w : World) : Calls Try.prog 10 #[.string ⟨b.toArray⟩] w fun e w' => e = .returned (.bool (!(decide (b = []) || decide (b = [239]) || decide (b = [239, 187]) || decide (b = [255]) || decide (b = [254])))) ∧ w = w' := by
  have hs : (⟨b.toArray⟩ : ByteArray).toList = b := ByteArray.toList_mk b
  generalize (⟨b.toArray⟩ : ByteArray) = s at *
  by_cases h0 : b = []
  · subst h0
    have hs0 : s.toList.isEmpty = true := by rw [hs]; rfl
    go_enter Try.func10, Try.ntmps10
    go_wp2
    go_ret
    exact ⟨rfl, rfl⟩
  by_cases h1 : b = [239]
  · subst h1
    have hs0 : s.toList.isEmpty = false := by rw [hs]; rfl
    go_enter Try.func10, Try.ntmps10
    go_wp2
    go_ret
    exact ⟨rfl, rfl⟩
  by_cases h2 : b = [239, 187]
  · subst h2
    have hs0 : s.toList.isEmpty = false := by rw [hs]; rfl
    go_enter Try.func10, Try.ntmps10
    go_wp2
    go_ret
    exact ⟨rfl, rfl⟩
  by_cases h3 : b = [255]
  · subst h3
    have hs0 : s.toList.isEmpty = false := by rw [hs]; rfl
    go_enter Try.func10, Try.ntmps10
    go_wp2
    go_ret
    exact ⟨rfl, rfl⟩
  by_cases h4 : b = [254]
  · subst h4
    have hs0 : s.toList.isEmpty = false := by rw [hs]; rfl
    go_enter Try.func10, Try.ntmps10
    go_wp2
    go_ret
    exact ⟨rfl, rfl⟩
  have hs0 : s.toList.isEmpty = false := by rw [hs]; cases b with | nil => exact absurd rfl h0 | cons _ _ => rfl
  rw [decide_eq_false h0, decide_eq_false h1, decide_eq_false h2, decide_eq_false h3, decide_eq_false h4]
  have g0 : b.isEmpty = false := by rw [← hs]; exact hs0
  have g1 : (b == [239]) = false := by rw [beq_eq_false_iff_ne]; exact h1
  have g2 : (b == [239, 187]) = false := by rw [beq_eq_false_iff_ne]; exact h2
  have g3 : (b == [255]) = false := by rw [beq_eq_false_iff_ne]; exact h3
  have g4 : (b == [254]) = false := by rw [beq_eq_false_iff_ne]; exact h4
  clear h0 h1 h2 h3 h4 hs0
  go_enter Try.func10, Try.ntmps10
  go_wp2
  go_ret
  exact ⟨rfl, rfl⟩
end Go.Proofs.Ytoagjhhdijebmaa
