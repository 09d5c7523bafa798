/-
  The contract of reedbedref09.number; no condition beyond those that each theorem states.
-/
import Derived.Test.YtgfienopijlnkaaPar1
namespace Go.Proofs.Ytgfienopijlnkaa
open Go.RowKit Go.Rb
attribute [local irreducible] Go.wpQuiet

theorem Rd.at0 {w : World} {B n : Nat} {A : Option Addr} {u : Int} {rest : List Int} (h : Rd w B 1 A n ((u :: rest).map iV)) :
    ∃ b off, A = some ⟨b, off, none⟩ ∧ b < B ∧ 1 ≤ n ∧ w.cell? ⟨b, off, none⟩ = some (.int .i64 u) := by
  have hn : 1 ≤ n := by have := h.1; simp at this; omega
  obtain ⟨b, off, hA, hb, hc⟩ := h.2 (by omega)
  exact ⟨b, off, hA, hb, hn, by simpa [iV] using hc 0 (by omega)⟩
theorem Rd.at1 {w : World} {B n : Nat} {A : Option Addr} {u v : Int} {rest : List Int} (h : Rd w B 1 A n ((u :: v :: rest).map iV)) :
    ∃ b off, A = some ⟨b, off, none⟩ ∧ b < B ∧ 2 ≤ n ∧ w.cell? ⟨b, off, none⟩ = some (.int .i64 u) ∧ w.cell? ⟨b, off + 1, none⟩ = some (.int .i64 v) := by
  have hn : 2 ≤ n := by have := h.1; simp at this; omega
  obtain ⟨b, off, hA, hb, hc⟩ := h.2 (by omega)
  exact ⟨b, off, hA, hb, hn, by simpa [iV] using hc 0 (by omega), by simpa [iV] using hc 1 (by omega)⟩

def isDig (x : Int) : Bool := decide (48 ≤ x ∧ x ≤ 57)
/-- One or two digits: the number, how many. -/
def num : List Int → Int × Nat
  | [] => (0, 0)
  | a :: rest => if isDig a then (match rest with
    | [] => (a - 48, 1)
    | b :: _ => if isDig b then (if 50 < (a - 48) * 10 + b - 48 then (0, 0) else ((a - 48) * 10 + b - 48, 2)) else (a - 48, 1)) else (0, 0)
def RetNum (p : Int × Nat) (w : World) (e : Ending) (w' : World) : Prop := e = .returned (.tuple #[.int .i64 p.1, .int .i64 (p.2 : Int)]) ∧ w' = w

set_option maxHeartbeats 400000 in
theorem number_0 (A : Option Addr) (c : Nat) (w : World) : Calls Try.prog 28 #[.slice A 0 c] w (RetNum (0, 0) w) := by
  go_enter Try.func28, Try.ntmps28
  go_wp2_with fail
  refine wp_loop_rounds 1 ?_
  rw [rounds_succ]
  go_wp2_with fail
  go_returns
  exact ⟨rfl, rfl⟩
set_option maxHeartbeats 400000 in
theorem number_lo (b off n c : Nat) (a : Int) (w : World) (hn : 1 ≤ n) (hc : n ≤ c) (c0 : w.cell? ⟨b, off, none⟩ = some (.int .i64 a)) (h1 : ¬ 48 ≤ a) : Calls Try.prog 28 #[.slice (some ⟨b, off, none⟩) n c] w (RetNum (0, 0) w) := by
  have F0 : 0 < n := hn
  go_enter Try.func28, Try.ntmps28
  go_wp2_with fail
  refine wp_loop_rounds 1 ?_
  rw [rounds_succ]
  go_wp2_with fail
  go_returns
  exact ⟨rfl, rfl⟩
set_option maxHeartbeats 400000 in
theorem number_hi (b off n c : Nat) (a : Int) (w : World) (hn : 1 ≤ n) (hc : n ≤ c) (c0 : w.cell? ⟨b, off, none⟩ = some (.int .i64 a)) (h1 : 48 ≤ a) (h2 : ¬ a ≤ 57) : Calls Try.prog 28 #[.slice (some ⟨b, off, none⟩) n c] w (RetNum (0, 0) w) := by
  have F0 : 0 < n := hn
  go_enter Try.func28, Try.ntmps28
  go_wp2_with fail
  refine wp_loop_rounds 1 ?_
  rw [rounds_succ]
  go_wp2_with fail
  go_returns
  exact ⟨rfl, rfl⟩
set_option maxHeartbeats 400000 in
theorem number_1 (b off c : Nat) (a : Int) (w : World) (hc : 1 ≤ c) (c0 : w.cell? ⟨b, off, none⟩ = some (.int .i64 a)) (h1 : 48 ≤ a) (h2 : a ≤ 57) : Calls Try.prog 28 #[.slice (some ⟨b, off, none⟩) 1 c] w (RetNum (a - 48, 1) w) := by
  have F1 : ¬ 50 < a - 48 := by omega
  go_enter Try.func28, Try.ntmps28
  go_wp2_with fail
  refine wp_loop_rounds 2 ?_
  rw [rounds_succ]
  go_wp2_with fail
  rw [rounds_succ]
  go_wp2_with fail
  go_returns
  exact ⟨rfl, rfl⟩
set_option maxHeartbeats 400000 in
theorem number_2lo (b off n c : Nat) (a d : Int) (w : World) (hn : 2 ≤ n) (hc : n ≤ c) (c0 : w.cell? ⟨b, off, none⟩ = some (.int .i64 a)) (c1 : w.cell? ⟨b, off + 1, none⟩ = some (.int .i64 d)) (h1 : 48 ≤ a) (h2 : a ≤ 57) (h3 : ¬ 48 ≤ d) : Calls Try.prog 28 #[.slice (some ⟨b, off, none⟩) n c] w (RetNum (a - 48, 1) w) := by
  have F0 : 0 < n := by omega
  have F2 : 1 < n := hn
  have F1 : ¬ 50 < a - 48 := by omega
  go_enter Try.func28, Try.ntmps28
  go_wp2_with fail
  refine wp_loop_rounds 2 ?_
  rw [rounds_succ]
  go_wp2_with fail
  rw [rounds_succ]
  go_wp2_with fail
  go_returns
  exact ⟨rfl, rfl⟩
set_option maxHeartbeats 400000 in
theorem number_2hi (b off n c : Nat) (a d : Int) (w : World) (hn : 2 ≤ n) (hc : n ≤ c) (c0 : w.cell? ⟨b, off, none⟩ = some (.int .i64 a)) (c1 : w.cell? ⟨b, off + 1, none⟩ = some (.int .i64 d)) (h1 : 48 ≤ a) (h2 : a ≤ 57) (h3 : 48 ≤ d) (h4 : ¬ d ≤ 57) : Calls Try.prog 28 #[.slice (some ⟨b, off, none⟩) n c] w (RetNum (a - 48, 1) w) := by
  have F0 : 0 < n := by omega
  have F2 : 1 < n := hn
  have F1 : ¬ 50 < a - 48 := by omega
  go_enter Try.func28, Try.ntmps28
  go_wp2_with fail
  refine wp_loop_rounds 2 ?_
  rw [rounds_succ]
  go_wp2_with fail
  rw [rounds_succ]
  go_wp2_with fail
  go_returns
  exact ⟨rfl, rfl⟩
set_option maxHeartbeats 400000 in
theorem number_2 (b off n c : Nat) (a d : Int) (w : World) (hn : 2 ≤ n) (hc : n ≤ c) (c0 : w.cell? ⟨b, off, none⟩ = some (.int .i64 a)) (c1 : w.cell? ⟨b, off + 1, none⟩ = some (.int .i64 d)) (h1 : 48 ≤ a) (h2 : a ≤ 57) (h3 : 48 ≤ d) (h4 : d ≤ 57) (h5 : ¬ 50 < (a - 48) * 10 + d - 48) : Calls Try.prog 28 #[.slice (some ⟨b, off, none⟩) n c] w (RetNum ((a - 48) * 10 + d - 48, 2) w) := by
  have F0 : 0 < n := by omega
  have F2 : 1 < n := hn
  go_enter Try.func28, Try.ntmps28
  go_wp2_with fail
  refine wp_loop_rounds 3 ?_
  rw [rounds_succ]
  go_wp2_with fail
  rw [rounds_succ]
  go_wp2_with fail
  rw [rounds_succ]
  go_wp2_with fail
  go_returns
  exact ⟨rfl, rfl⟩
set_option maxHeartbeats 400000 in
theorem number_2big (b off n c : Nat) (a d : Int) (w : World) (hn : 2 ≤ n) (hc : n ≤ c) (c0 : w.cell? ⟨b, off, none⟩ = some (.int .i64 a)) (c1 : w.cell? ⟨b, off + 1, none⟩ = some (.int .i64 d)) (h1 : 48 ≤ a) (h2 : a ≤ 57) (h3 : 48 ≤ d) (h4 : d ≤ 57) (h5 : 50 < (a - 48) * 10 + d - 48) : Calls Try.prog 28 #[.slice (some ⟨b, off, none⟩) n c] w (RetNum (0, 0) w) := by
  have F0 : 0 < n := by omega
  have F2 : 1 < n := hn
  go_enter Try.func28, Try.ntmps28
  go_wp2_with fail
  refine wp_loop_rounds 3 ?_
  rw [rounds_succ]
  go_wp2_with fail
  rw [rounds_succ]
  go_wp2_with fail
  rw [rounds_succ]
  go_wp2_with fail
  go_returns
  exact ⟨rfl, rfl⟩
theorem number_any (l : List Int) (A : Option Addr) (n c B : Nat) (w : World) (hr : Rd w B 1 A n (l.map iV)) (hc : n ≤ c) : Calls Try.prog 28 #[.slice A n c] w (RetNum (num l) w) := by
  have hl : l.length = n := by simpa using hr.1
  match l, hr, hl with
  | [], hr, hl =>
    obtain rfl : n = 0 := by simpa using hl.symm
    exact number_0 A c w
  | [a], hr, hl =>
    obtain rfl : n = 1 := by simpa using hl.symm
    obtain ⟨b, off, rfl, hb, hn, c0⟩ := Rd.at0 hr
    by_cases h1 : 48 ≤ a
    · by_cases h2 : a ≤ 57
      · rw [show num [a] = (a - 48, 1) by simp [num, isDig, h1, h2]]
        exact number_1 b off c a w hc c0 h1 h2
      · rw [show num [a] = (0, 0) by simp [num, isDig, h2]]
        exact number_hi b off 1 c a w (by omega) hc c0 h1 h2
    · rw [show num [a] = (0, 0) by simp [num, isDig, h1]]
      exact number_lo b off 1 c a w (by omega) hc c0 h1
  | a :: d :: rest, hr, hl =>
    obtain ⟨b, off, rfl, hb, hn, c0, c1⟩ := Rd.at1 hr
    by_cases h1 : 48 ≤ a
    · by_cases h2 : a ≤ 57
      · by_cases h3 : 48 ≤ d
        · by_cases h4 : d ≤ 57
          · by_cases h5 : 50 < (a - 48) * 10 + d - 48
            · rw [show num (a :: d :: rest) = (0, 0) by simp [num, isDig, h1, h2, h3, h4, h5]]
              exact number_2big b off n c a d w hn hc c0 c1 h1 h2 h3 h4 h5
            · rw [show num (a :: d :: rest) = ((a - 48) * 10 + d - 48, 2) by simp [num, isDig, h1, h2, h3, h4, h5]]
              exact number_2 b off n c a d w hn hc c0 c1 h1 h2 h3 h4 h5
          · rw [show num (a :: d :: rest) = (a - 48, 1) by simp [num, isDig, h1, h2, h4]]
            exact number_2hi b off n c a d w hn hc c0 c1 h1 h2 h3 h4
        · rw [show num (a :: d :: rest) = (a - 48, 1) by simp [num, isDig, h1, h2, h3]]
          exact number_2lo b off n c a d w hn hc c0 c1 h1 h2 h3
      · rw [show num (a :: d :: rest) = (0, 0) by simp [num, isDig, h2]]
        exact number_hi b off n c a w (by omega) hc c0 h1 h2
    · rw [show num (a :: d :: rest) = (0, 0) by simp [num, isDig, h1]]
      exact number_lo b off n c a w (by omega) hc c0 h1
end Go.Proofs.Ytgfienopijlnkaa
