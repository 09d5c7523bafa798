/-
  Contracts of Join in both packages, and the law CodeUnits; no condition beyond those that each theorem states.
-/
import Derived.Test.YtoagjhhdijebmaaCode5
import Derived.Test.YtoagjhhdijebmaaRegion
namespace Go.Proofs.Ytoagjhhdijebmaa
open Go.RowKit Go.Rb

/-- The code point at the beginning of units, and how many it has. -/
def joinP : List Int → Int × Int
  | [] => (65533, 0)
  | u :: rest =>
    if u < 65536 ∧ isB u = true then (u, 1)
    else if 55296 ≤ u ∧ u < 56320 then
      match rest with
      | [] => (65533, 1)
      | v :: _ => if 56320 ≤ v ∧ v < 57344 then (65536 + 1024 * (u - 55296) + v - 56320, 2) else (65533, 1)
    else (65533, 1)
def JoinTo (p : Int × Int) (w : World) (e : Ending) (w' : World) : Prop := e = .returned (.tuple #[.int .i64 p.1, .int .i64 p.2]) ∧ w = w'

theorem ret_two {a b c d : Int} (h : a = b) (k : c = d) : Ending.returned (.tuple #[.int .i64 a, .int .i64 c]) = Ending.returned (.tuple #[.int .i64 b, .int .i64 d]) := by rw [h, k]
theorem join_one {u : Int} {rest : List Int} (h : u < 65536) (hb : isB u = true) : joinP (u :: rest) = (u, 1) := by simp [joinP, h, hb]
theorem join_bad {u : Int} {rest : List Int} (h : ¬ (u < 65536 ∧ isB u = true)) (h2 : ¬ (55296 ≤ u ∧ u < 56320)) : joinP (u :: rest) = (65533, 1) := by
  simp only [joinP, if_neg h, if_neg h2]
theorem join_lone {u : Int} (h2 : 55296 ≤ u ∧ u < 56320) : joinP [u] = (65533, 1) := by
  have h : ¬ (u < 65536 ∧ isB u = true) := fun h => by have := isB_true.1 h.2; omega
  simp only [joinP, if_neg h, if_pos h2]
theorem join_two {u v : Int} {rest : List Int} (h2 : 55296 ≤ u ∧ u < 56320) (hv : 56320 ≤ v ∧ v < 57344) : joinP (u :: v :: rest) = (65536 + 1024 * (u - 55296) + v - 56320, 2) := by
  have h : ¬ (u < 65536 ∧ isB u = true) := fun h => by have := isB_true.1 h.2; omega
  simp only [joinP, if_neg h, if_pos h2, if_pos hv]
theorem join_off {u v : Int} {rest : List Int} (h2 : 55296 ≤ u ∧ u < 56320) (hv : ¬ (56320 ≤ v ∧ v < 57344)) : joinP (u :: v :: rest) = (65533, 1) := by
  have h : ¬ (u < 65536 ∧ isB u = true) := fun h => by have := isB_true.1 h.2; omega
  simp only [joinP, if_neg h, if_pos h2, if_neg hv]

theorem Rd.at0 {w : World} {B n : Nat} {A : Option Addr} {u : Int} {rest : List Int} (h : Rd w B 1 A n ((u :: rest).map iV)) :
    ∃ b off, A = some ⟨b, off, none⟩ ∧ b < B ∧ 1 ≤ n ∧ w.cell? ⟨b, off, none⟩ = some (.int .i64 u) := by
  have hn : 1 ≤ n := by have := h.1; simp at this; omega
  obtain ⟨b, off, hA, hb, hc⟩ := h.2 (by omega)
  exact ⟨b, off, hA, hb, hn, by simpa [iV] using hc 0 (by omega)⟩
theorem Rd.at1 {w : World} {B n : Nat} {A : Option Addr} {u v : Int} {rest : List Int} (h : Rd w B 1 A n ((u :: v :: rest).map iV)) :
    ∃ b off, A = some ⟨b, off, none⟩ ∧ b < B ∧ 2 ≤ n ∧ w.cell? ⟨b, off, none⟩ = some (.int .i64 u) ∧ w.cell? ⟨b, off + 1, none⟩ = some (.int .i64 v) := by
  have hn : 2 ≤ n := by have := h.1; simp at this; omega
  obtain ⟨b, off, hA, hb, hc⟩ := h.2 (by omega)
  exact ⟨b, off, hA, hb, hn, by simpa [iV] using hc 0 (by omega), by simpa [iV] using hc 1 (by omega)⟩
set_option maxHeartbeats 400000 in
theorem refJoin_0  (A : Option Addr) (n c B : Nat) (w : World)  (hr : Rd w B 1 A n ((([] : List Int)).map iV)) (hn : n ≤ 1000000) (hc : n ≤ c) :
    Calls Try.prog 21 #[.slice A n c] w (JoinTo (joinP (([] : List Int))) w) := by
  obtain rfl : n = 0 := by have := hr.1; simpa using this.symm
  clear hr hc
  go_enter Try.func21, Try.ntmps21
  go_wp2
  go_ret2
  exact ⟨rfl, rfl⟩

set_option maxHeartbeats 400000 in
theorem refJoin_one (u : Int) (rest : List Int) (A : Option Addr) (n c B : Nat) (w : World) (hu : isB u = true) (h : u < 65536) (hr : Rd w B 1 A n ((u :: rest).map iV)) (hn : n ≤ 1000000) (hc : n ≤ c) :
    Calls Try.prog 21 #[.slice A n c] w (JoinTo (joinP (u :: rest)) w) := by
  rw [join_one h hu]
  obtain ⟨b, off, rfl, hb, hn1, h0⟩ := Rd.at0 hr
  have hi := refIs_any u
  rw [hu] at hi
  have HI := Lib.hid hi
  have hn0 : ((n : Int) == 0) = false := by simp; omega
  clear hi hu hr
  go_enter Try.func21, Try.ntmps21
  go_wp2_with (go_at_call 22; refine (HI.out _).mono ?_; rintro e w' ⟨rfl, rfl⟩)
  go_ret2
  exact ⟨rfl, rfl⟩

set_option maxHeartbeats 400000 in
theorem refJoin_big (u : Int) (rest : List Int) (A : Option Addr) (n c B : Nat) (w : World) (h : ¬ u < 65536) (hr : Rd w B 1 A n ((u :: rest).map iV)) (hn : n ≤ 1000000) (hc : n ≤ c) :
    Calls Try.prog 21 #[.slice A n c] w (JoinTo (joinP (u :: rest)) w) := by
  rw [join_bad (fun hh => h hh.1) (by omega)]
  obtain ⟨hu', hu⟩ : ∃ x, isB u = x := ⟨_, rfl⟩
  obtain ⟨b, off, rfl, hb, hn1, h0⟩ := Rd.at0 hr
  have hi := refIs_any u
  rw [hu] at hi
  have HI := Lib.hid hi
  have hn0 : ((n : Int) == 0) = false := by simp; omega
  clear hi hu hr
  go_enter Try.func21, Try.ntmps21
  go_wp2_with (go_at_call 22; refine (HI.out _).mono ?_; rintro e w' ⟨rfl, rfl⟩)
  go_ret2
  exact ⟨rfl, rfl⟩

set_option maxHeartbeats 400000 in
theorem refJoin_bad (u : Int) (rest : List Int) (A : Option Addr) (n c B : Nat) (w : World) (hu : isB u = false) (h : u < 65536) (h2 : ¬ (55296 ≤ u ∧ u < 56320)) (hr : Rd w B 1 A n ((u :: rest).map iV)) (hn : n ≤ 1000000) (hc : n ≤ c) :
    Calls Try.prog 21 #[.slice A n c] w (JoinTo (joinP (u :: rest)) w) := by
  rw [join_bad (fun hh => by rw [hu] at hh; cases hh.2) h2]
  obtain ⟨b, off, rfl, hb, hn1, h0⟩ := Rd.at0 hr
  have hi := refIs_any u
  rw [hu] at hi
  have HI := Lib.hid hi
  have hn0 : ((n : Int) == 0) = false := by simp; omega
  clear hi hu hr
  by_cases h3 : 55296 ≤ u
  all_goals
    go_enter Try.func21, Try.ntmps21
    go_wp2_with (go_at_call 22; refine (HI.out _).mono ?_; rintro e w' ⟨rfl, rfl⟩)
    go_ret2
    exact ⟨rfl, rfl⟩

set_option maxHeartbeats 400000 in
theorem refJoin_lone (u : Int) (A : Option Addr) (n c B : Nat) (w : World) (h2 : 55296 ≤ u ∧ u < 56320) (hr : Rd w B 1 A n (([u]).map iV)) (hn : n ≤ 1000000) (hc : n ≤ c) :
    Calls Try.prog 21 #[.slice A n c] w (JoinTo (joinP ([u])) w) := by
  rw [join_lone h2]
  have hu : isB u = false := isB_false.2 (by omega)
  obtain rfl : n = 1 := by have := hr.1; simpa using this.symm
  obtain ⟨b, off, rfl, hb, hn1, h0⟩ := Rd.at0 hr
  have hi := refIs_any u
  rw [hu] at hi
  have HI := Lib.hid hi
  clear hi hu hr
  obtain ⟨h2, h3⟩ := h2
  go_enter Try.func21, Try.ntmps21
  go_wp2_with (go_at_call 22; refine (HI.out _).mono ?_; rintro e w' ⟨rfl, rfl⟩)
  go_ret2
  exact ⟨rfl, rfl⟩

set_option maxHeartbeats 400000 in
theorem refJoin_two (u v : Int) (rest : List Int) (A : Option Addr) (n c B : Nat) (w : World) (h2 : 55296 ≤ u ∧ u < 56320) (hv : 56320 ≤ v ∧ v < 57344) (hr : Rd w B 1 A n ((u :: v :: rest).map iV)) (hn : n ≤ 1000000) (hc : n ≤ c) :
    Calls Try.prog 21 #[.slice A n c] w (JoinTo (joinP (u :: v :: rest)) w) := by
  rw [join_two h2 hv]
  have hu : isB u = false := isB_false.2 (by omega)
  obtain ⟨b, off, rfl, hb, hn1, h0, h1⟩ := Rd.at1 hr
  have hi := refIs_any u
  rw [hu] at hi
  have HI := Lib.hid hi
  have hn0 : ((n : Int) == 0) = false := by simp; omega
  clear hi hu hr
  have hn2 : ((n : Int) == 1) = false := by simp; omega
  obtain ⟨h2, h3⟩ := h2
  obtain ⟨hv1, hv2⟩ := hv
  go_enter Try.func21, Try.ntmps21
  go_wp2_with (go_at_call 22; refine (HI.out _).mono ?_; rintro e w' ⟨rfl, rfl⟩)
  go_ret2
  exact ⟨rfl, rfl⟩

set_option maxHeartbeats 400000 in
theorem refJoin_off (u v : Int) (rest : List Int) (A : Option Addr) (n c B : Nat) (w : World) (h2 : 55296 ≤ u ∧ u < 56320) (hv : ¬ (56320 ≤ v ∧ v < 57344)) (hr : Rd w B 1 A n ((u :: v :: rest).map iV)) (hn : n ≤ 1000000) (hc : n ≤ c) :
    Calls Try.prog 21 #[.slice A n c] w (JoinTo (joinP (u :: v :: rest)) w) := by
  rw [join_off h2 hv]
  have hu : isB u = false := isB_false.2 (by omega)
  obtain ⟨b, off, rfl, hb, hn1, h0, h1⟩ := Rd.at1 hr
  have hi := refIs_any u
  rw [hu] at hi
  have HI := Lib.hid hi
  have hn0 : ((n : Int) == 0) = false := by simp; omega
  clear hi hu hr
  have hn2 : ((n : Int) == 1) = false := by simp; omega
  obtain ⟨h2, h3⟩ := h2
  by_cases h4 : v < 56320
  all_goals
    go_enter Try.func21, Try.ntmps21
    go_wp2_with (go_at_call 22; refine (HI.out _).mono ?_; rintro e w' ⟨rfl, rfl⟩)
    go_ret2
    exact ⟨rfl, rfl⟩

theorem refJoin_any (us : List Int) (A : Option Addr) (n c B : Nat) (w : World) (hr : Rd w B 1 A n (us.map iV)) (hn : n ≤ 1000000) (hc : n ≤ c) :
    Calls Try.prog 21 #[.slice A n c] w (JoinTo (joinP us) w) := by
  rcases us with _ | ⟨u, rest⟩
  · exact refJoin_0 A n c B w hr hn hc
  · by_cases h : u < 65536
    · cases hu : isB u
      · by_cases h2 : 55296 ≤ u ∧ u < 56320
        · rcases rest with _ | ⟨v, rest⟩
          · exact refJoin_lone u A n c B w h2 hr hn hc
          · by_cases hv : 56320 ≤ v ∧ v < 57344
            · exact refJoin_two u v rest A n c B w h2 hv hr hn hc
            · exact refJoin_off u v rest A n c B w h2 hv hr hn hc
        · exact refJoin_bad u rest A n c B w hu h h2 hr hn hc
      · exact refJoin_one u rest A n c B w hu h hr hn hc
    · exact refJoin_big u rest A n c B w h hr hn hc

set_option maxHeartbeats 400000 in
theorem codeJoin_0  (A : Option Addr) (n c B : Nat) (w : World)  (hr : Rd w B 1 A n ((([] : List Int)).map iV)) (hn : n ≤ 1000000) (hc : n ≤ c) :
    Calls Try.prog 36 #[.slice A n c] w (JoinTo (joinP (([] : List Int))) w) := by
  obtain rfl : n = 0 := by have := hr.1; simpa using this.symm
  clear hr hc
  go_enter Try.func36, Try.ntmps36
  go_wp2
  go_ret2
  exact ⟨rfl, rfl⟩

set_option maxHeartbeats 400000 in
theorem codeJoin_one (u : Int) (rest : List Int) (A : Option Addr) (n c B : Nat) (w : World) (hu : isB u = true) (h : u < 65536) (hr : Rd w B 1 A n ((u :: rest).map iV)) (hn : n ≤ 1000000) (hc : n ≤ c) :
    Calls Try.prog 36 #[.slice A n c] w (JoinTo (joinP (u :: rest)) w) := by
  rw [join_one h hu]
  obtain ⟨b, off, rfl, hb, hn1, h0⟩ := Rd.at0 hr
  have hi := codeIs_any u
  rw [hu] at hi
  have HI := Lib.hid hi
  have hn0 : ((n : Int) == 0) = false := by simp; omega
  clear hi hu hr
  go_enter Try.func36, Try.ntmps36
  go_wp2_with (go_at_call 40; refine (HI.out _).mono ?_; rintro e w' ⟨rfl, rfl⟩)
  go_ret2
  exact ⟨rfl, rfl⟩

set_option maxHeartbeats 400000 in
theorem codeJoin_big (u : Int) (rest : List Int) (A : Option Addr) (n c B : Nat) (w : World) (h : ¬ u < 65536) (hr : Rd w B 1 A n ((u :: rest).map iV)) (hn : n ≤ 1000000) (hc : n ≤ c) :
    Calls Try.prog 36 #[.slice A n c] w (JoinTo (joinP (u :: rest)) w) := by
  rw [join_bad (fun hh => h hh.1) (by omega)]
  obtain ⟨hu', hu⟩ : ∃ x, isB u = x := ⟨_, rfl⟩
  obtain ⟨b, off, rfl, hb, hn1, h0⟩ := Rd.at0 hr
  have hi := codeIs_any u
  rw [hu] at hi
  have HI := Lib.hid hi
  have hn0 : ((n : Int) == 0) = false := by simp; omega
  clear hi hu hr
  go_enter Try.func36, Try.ntmps36
  go_wp2_with (go_at_call 40; refine (HI.out _).mono ?_; rintro e w' ⟨rfl, rfl⟩)
  go_ret2
  exact ⟨rfl, rfl⟩

set_option maxHeartbeats 400000 in
theorem codeJoin_bad (u : Int) (rest : List Int) (A : Option Addr) (n c B : Nat) (w : World) (hu : isB u = false) (h : u < 65536) (h2 : ¬ (55296 ≤ u ∧ u < 56320)) (hr : Rd w B 1 A n ((u :: rest).map iV)) (hn : n ≤ 1000000) (hc : n ≤ c) :
    Calls Try.prog 36 #[.slice A n c] w (JoinTo (joinP (u :: rest)) w) := by
  rw [join_bad (fun hh => by rw [hu] at hh; cases hh.2) h2]
  obtain ⟨b, off, rfl, hb, hn1, h0⟩ := Rd.at0 hr
  have hi := codeIs_any u
  rw [hu] at hi
  have HI := Lib.hid hi
  have hn0 : ((n : Int) == 0) = false := by simp; omega
  clear hi hu hr
  by_cases h3 : 55296 ≤ u
  all_goals
    go_enter Try.func36, Try.ntmps36
    go_wp2_with (go_at_call 40; refine (HI.out _).mono ?_; rintro e w' ⟨rfl, rfl⟩)
    go_ret2
    exact ⟨rfl, rfl⟩

set_option maxHeartbeats 400000 in
theorem codeJoin_lone (u : Int) (A : Option Addr) (n c B : Nat) (w : World) (h2 : 55296 ≤ u ∧ u < 56320) (hr : Rd w B 1 A n (([u]).map iV)) (hn : n ≤ 1000000) (hc : n ≤ c) :
    Calls Try.prog 36 #[.slice A n c] w (JoinTo (joinP ([u])) w) := by
  rw [join_lone h2]
  have hu : isB u = false := isB_false.2 (by omega)
  obtain rfl : n = 1 := by have := hr.1; simpa using this.symm
  obtain ⟨b, off, rfl, hb, hn1, h0⟩ := Rd.at0 hr
  have hi := codeIs_any u
  rw [hu] at hi
  have HI := Lib.hid hi
  clear hi hu hr
  obtain ⟨h2, h3⟩ := h2
  go_enter Try.func36, Try.ntmps36
  go_wp2_with (go_at_call 40; refine (HI.out _).mono ?_; rintro e w' ⟨rfl, rfl⟩)
  go_ret2
  exact ⟨rfl, rfl⟩

set_option maxHeartbeats 400000 in
theorem codeJoin_two (u v : Int) (rest : List Int) (A : Option Addr) (n c B : Nat) (w : World) (h2 : 55296 ≤ u ∧ u < 56320) (hv : 56320 ≤ v ∧ v < 57344) (hr : Rd w B 1 A n ((u :: v :: rest).map iV)) (hn : n ≤ 1000000) (hc : n ≤ c) :
    Calls Try.prog 36 #[.slice A n c] w (JoinTo (joinP (u :: v :: rest)) w) := by
  rw [join_two h2 hv]
  have hu : isB u = false := isB_false.2 (by omega)
  obtain ⟨b, off, rfl, hb, hn1, h0, h1⟩ := Rd.at1 hr
  have hi := codeIs_any u
  rw [hu] at hi
  have HI := Lib.hid hi
  have hn0 : ((n : Int) == 0) = false := by simp; omega
  clear hi hu hr
  have hn2 : ((n : Int) == 1) = false := by simp; omega
  obtain ⟨h2, h3⟩ := h2
  obtain ⟨hv1, hv2⟩ := hv
  go_enter Try.func36, Try.ntmps36
  go_wp2_with (go_at_call 40; refine (HI.out _).mono ?_; rintro e w' ⟨rfl, rfl⟩)
  go_ret2
  exact ⟨ret_two (by omega) rfl, rfl⟩

set_option maxHeartbeats 400000 in
theorem codeJoin_off (u v : Int) (rest : List Int) (A : Option Addr) (n c B : Nat) (w : World) (h2 : 55296 ≤ u ∧ u < 56320) (hv : ¬ (56320 ≤ v ∧ v < 57344)) (hr : Rd w B 1 A n ((u :: v :: rest).map iV)) (hn : n ≤ 1000000) (hc : n ≤ c) :
    Calls Try.prog 36 #[.slice A n c] w (JoinTo (joinP (u :: v :: rest)) w) := by
  rw [join_off h2 hv]
  have hu : isB u = false := isB_false.2 (by omega)
  obtain ⟨b, off, rfl, hb, hn1, h0, h1⟩ := Rd.at1 hr
  have hi := codeIs_any u
  rw [hu] at hi
  have HI := Lib.hid hi
  have hn0 : ((n : Int) == 0) = false := by simp; omega
  clear hi hu hr
  have hn2 : ((n : Int) == 1) = false := by simp; omega
  obtain ⟨h2, h3⟩ := h2
  by_cases h4 : v < 56320
  all_goals
    go_enter Try.func36, Try.ntmps36
    go_wp2_with (go_at_call 40; refine (HI.out _).mono ?_; rintro e w' ⟨rfl, rfl⟩)
    go_ret2
    exact ⟨rfl, rfl⟩

theorem codeJoin_any (us : List Int) (A : Option Addr) (n c B : Nat) (w : World) (hr : Rd w B 1 A n (us.map iV)) (hn : n ≤ 1000000) (hc : n ≤ c) :
    Calls Try.prog 36 #[.slice A n c] w (JoinTo (joinP us) w) := by
  rcases us with _ | ⟨u, rest⟩
  · exact codeJoin_0 A n c B w hr hn hc
  · by_cases h : u < 65536
    · cases hu : isB u
      · by_cases h2 : 55296 ≤ u ∧ u < 56320
        · rcases rest with _ | ⟨v, rest⟩
          · exact codeJoin_lone u A n c B w h2 hr hn hc
          · by_cases hv : 56320 ≤ v ∧ v < 57344
            · exact codeJoin_two u v rest A n c B w h2 hv hr hn hc
            · exact codeJoin_off u v rest A n c B w h2 hv hr hn hc
        · exact codeJoin_bad u rest A n c B w hu h h2 hr hn hc
      · exact codeJoin_one u rest A n c B w hu h hr hn hc
    · exact codeJoin_big u rest A n c B w h hr hn hc
end Go.Proofs.Ytoagjhhdijebmaa
