/-
  The contract of reedbedref09.braces; no condition beyond those that each theorem states.
-/
import Derived.Test.YtgfienopijlnkaaPar2
import Derived.Laws.Slices
namespace Go.Rb
open Go.RowKit
theorem rd_tail {P : Program} {w : World} {B sz n c : Nat} {A : Option Addr} {xs : List Value} (t : TypeId) (ht : P.underlying t = some (.slice (P.elem t))) (hs : ∀ W, (sizeOf (P.elem t)).run P W = .ok sz W)
    (h : Rd w B sz A n xs) (hnc : n ≤ c) (k : Nat) (hk : k ≤ n) :
    ∃ A' c', (∀ W, (Instr.slice t (.slice A n c) (some (.int .i64 (k : Int))) none none).run P W = .ok (.slice A' (n - k) c') W) ∧ Rd w B sz A' (n - k) (xs.drop (k * sz)) ∧ n - k ≤ c' ∧ c' ≤ c := by
  have hrun : ∀ W, (Instr.slice t (.slice A n c) (some (.int .i64 (k : Int))) none none).run P W = .ok (sliced A k n c sz) W := fun W => by
    rw [run_slice_l (P := P) W t A n c ht .i64 (k : Int) (by omega) (by omega), hs W]
    simp [Result.andThen]
  have hl : (xs.drop (k * sz)).length = (n - k) * sz := by rw [List.length_drop, h.1, Nat.sub_mul]
  by_cases hkn : k < n
  · obtain ⟨b, off, rfl, hb, hx⟩ := h.2 (by omega)
    refine ⟨some ⟨b, off + k * sz, none⟩, c - k, fun W => (hrun W).trans ?_, ⟨hl, fun _ => ⟨b, off + k * sz, rfl, hb, fun i hi => ?_⟩⟩, by omega, by omega⟩
    · simp only [sliced, Option.map_some, Addr.add_lit]
      rw [if_neg (by omega)]
    · rw [List.getElem?_drop, Nat.add_assoc, hx (k * sz + i) (by rw [Nat.sub_mul] at hi; omega)]
  · obtain rfl : k = n := by omega
    refine ⟨A.map fun a => if c = k then a else a.add (k * sz), c - k, fun W => (hrun W).trans ?_, ⟨hl, fun h0 => by omega⟩, by omega, by omega⟩
    simp only [sliced]
    cases A <;> simp <;> split <;> simp
end Go.Rb
namespace Go.Proofs.Ytgfienopijlnkaa
open Go.RowKit Go.Rb
attribute [local irreducible] Go.wpQuiet

/-- A token that is a count, or none. -/
def zeroTok : Value := .agg #[.int .i64 0, .int .i64 0, .slice none 0 0, .int .i64 0, .int .i64 0]
def cntTok (a b : Int) : Value := .agg #[.int .i64 2, .int .i64 0, .slice none 0 0, .int .i64 a, .int .i64 b]
def RetTok (w : World) (p : Value × Nat) (e : Ending) (w' : World) : Prop := ∃ cs, p.1 = .agg cs ∧ w' = w.alloc (.cells cs 43) ∧ e = .returned (.tuple #[p.1, .int .i64 (p.2 : Int)])
theorem num_bd (l : List Int) : (num l).2 ≤ 2 ∧ (num l).2 ≤ l.length ∧ 0 ≤ (num l).1 ∧ (num l).1 ≤ 50 := by
  match l with
  | [] => simp [num]
  | [a] =>
    simp only [num]
    split
    · rename_i h; simp [isDig] at h; simp; omega
    · simp
  | a :: d :: rest =>
    simp only [num]
    split
    · rename_i h
      simp [isDig] at h
      split
      · rename_i h2
        simp [isDig] at h2
        split
        · simp
        · simp; omega
      · simp; omega
    · simp
set_option maxHeartbeats 400000 in
theorem braces_none (A : Option Addr) (n c k : Nat) (a : Int) (w : World) (hc : n ≤ c) (hn : n ≤ 1000) (hk2 : k ≤ 2) (HN : Hid (∀ W, Below w.heap.size w W → Calls Try.prog 28 #[.slice A n c] W (RetNum (a, k) W))) (h0 : k = 0) : Calls Try.prog 17 #[.slice A n c] w (RetTok w (zeroTok, 0)) := by
  subst h0
  go_enter Try.func17, Try.ntmps17
  go_wp2_with fail
  refine (HN.out _ (below_al (Below.refl _ _) _)).mono ?_
  rintro e1 w1 ⟨rfl, rfl⟩
  go_wp2_with fail
  go_returns
  exact ⟨_, rfl, rfl, rfl⟩
set_option maxHeartbeats 400000 in
theorem braces_end (b off n c k : Nat) (a : Int) (w : World) (hc : n ≤ c) (hn : n ≤ 1000) (hk2 : k ≤ 2) (hb : b < w.heap.size) (HN : Hid (∀ W, Below w.heap.size w W → Calls Try.prog 28 #[.slice (some ⟨b, off, none⟩) n c] W (RetNum (a, k) W))) (h0 : k ≠ 0) (h1 : n ≤ k) : Calls Try.prog 17 #[.slice (some ⟨b, off, none⟩) n c] w (RetTok w (zeroTok, 0)) := by
  have K0 : ((k : Int) == 0) = false := by simp; omega
  go_enter Try.func17, Try.ntmps17
  go_wp2_with fail
  refine (HN.out _ (below_al (Below.refl _ _) _)).mono ?_
  rintro e1 w1 ⟨rfl, rfl⟩
  go_wp2_with fail
  go_returns
  exact ⟨_, rfl, rfl, rfl⟩
set_option maxHeartbeats 400000 in
theorem braces_one (b off n c k : Nat) (a : Int) (w : World) (hc : n ≤ c) (hn : n ≤ 1000) (hk2 : k ≤ 2) (hb : b < w.heap.size) (HN : Hid (∀ W, Below w.heap.size w W → Calls Try.prog 28 #[.slice (some ⟨b, off, none⟩) n c] W (RetNum (a, k) W))) (x : Int) (h0 : k ≠ 0) (h1 : k < n) (c0 : w.cell? ⟨b, off + k, none⟩ = some (.int .i64 x)) (h2 : x = 125) : Calls Try.prog 17 #[.slice (some ⟨b, off, none⟩) n c] w (RetTok w (cntTok a a, k + 1)) := by
  have K0 : ((k : Int) == 0) = false := by simp; omega
  subst h2
  go_enter Try.func17, Try.ntmps17
  go_wp2_with fail
  refine (HN.out _ (below_al (Below.refl _ _) _)).mono ?_
  rintro e1 w1 ⟨rfl, rfl⟩
  go_wp2_with fail
  go_returns
  exact ⟨_, rfl, rfl, rfl⟩
set_option maxHeartbeats 400000 in
theorem braces_bad (b off n c k : Nat) (a : Int) (w : World) (hc : n ≤ c) (hn : n ≤ 1000) (hk2 : k ≤ 2) (hb : b < w.heap.size) (HN : Hid (∀ W, Below w.heap.size w W → Calls Try.prog 28 #[.slice (some ⟨b, off, none⟩) n c] W (RetNum (a, k) W))) (x : Int) (h0 : k ≠ 0) (h1 : k < n) (c0 : w.cell? ⟨b, off + k, none⟩ = some (.int .i64 x)) (h2 : (x == 125) = false) (h3 : x ≠ 44) : Calls Try.prog 17 #[.slice (some ⟨b, off, none⟩) n c] w (RetTok w (zeroTok, 0)) := by
  have K0 : ((k : Int) == 0) = false := by simp; omega
  go_enter Try.func17, Try.ntmps17
  go_wp2_with fail
  refine (HN.out _ (below_al (Below.refl _ _) _)).mono ?_
  rintro e1 w1 ⟨rfl, rfl⟩
  go_wp2_with fail
  go_returns
  exact ⟨_, rfl, rfl, rfl⟩
set_option maxHeartbeats 400000 in
theorem braces_open (b off n c k : Nat) (a : Int) (w : World) (hc : n ≤ c) (hn : n ≤ 1000) (hk2 : k ≤ 2) (hb : b < w.heap.size) (HN : Hid (∀ W, Below w.heap.size w W → Calls Try.prog 28 #[.slice (some ⟨b, off, none⟩) n c] W (RetNum (a, k) W))) (x : Int) (h0 : k ≠ 0) (h1 : k < n) (c0 : w.cell? ⟨b, off + k, none⟩ = some (.int .i64 x)) (h2 : x = 44) (h3 : n ≤ k + 1) : Calls Try.prog 17 #[.slice (some ⟨b, off, none⟩) n c] w (RetTok w (zeroTok, 0)) := by
  have K0 : ((k : Int) == 0) = false := by simp; omega
  subst h2
  go_enter Try.func17, Try.ntmps17
  go_wp2_with fail
  refine (HN.out _ (below_al (Below.refl _ _) _)).mono ?_
  rintro e1 w1 ⟨rfl, rfl⟩
  go_wp2_with fail
  go_returns
  exact ⟨_, rfl, rfl, rfl⟩
set_option maxHeartbeats 400000 in
theorem braces_more (b off n c k : Nat) (a : Int) (w : World) (hc : n ≤ c) (hn : n ≤ 1000) (hk2 : k ≤ 2) (hb : b < w.heap.size) (HN : Hid (∀ W, Below w.heap.size w W → Calls Try.prog 28 #[.slice (some ⟨b, off, none⟩) n c] W (RetNum (a, k) W))) (x y : Int) (h0 : k ≠ 0) (h1 : k + 1 < n) (c0 : w.cell? ⟨b, off + k, none⟩ = some (.int .i64 x)) (h2 : x = 44) (c1 : w.cell? ⟨b, off + (k + 1), none⟩ = some (.int .i64 y)) (h3 : y = 125) : Calls Try.prog 17 #[.slice (some ⟨b, off, none⟩) n c] w (RetTok w (cntTok a (-1), k + 2)) := by
  have K0 : ((k : Int) == 0) = false := by simp; omega
  subst h2 h3
  go_enter Try.func17, Try.ntmps17
  go_wp2_with fail
  refine (HN.out _ (below_al (Below.refl _ _) _)).mono ?_
  rintro e1 w1 ⟨rfl, rfl⟩
  go_wp2_with fail
  go_returns
  exact ⟨_, rfl, rfl, rfl⟩
set_option maxHeartbeats 400000 in
theorem braces_no2 (b off n c k : Nat) (a : Int) (w : World) (hc : n ≤ c) (hn : n ≤ 1000) (hk2 : k ≤ 2) (hb : b < w.heap.size) (HN : Hid (∀ W, Below w.heap.size w W → Calls Try.prog 28 #[.slice (some ⟨b, off, none⟩) n c] W (RetNum (a, k) W))) (x y q : Int) (m nn cc : Nat) (A1 : Option Addr) (h0 : k ≠ 0) (h1 : k + 1 < n) (c0 : w.cell? ⟨b, off + k, none⟩ = some (.int .i64 x)) (h2 : x = 44) (c1 : w.cell? ⟨b, off + (k + 1), none⟩ = some (.int .i64 y)) (h3 : (y == 125) = false) (hm2 : m ≤ 2) (hsl : ∀ W, (Instr.slice 38 (.slice (some ⟨b, off, none⟩) n c) (some (.int .i64 ((k : Int) + 1))) none none).run Try.prog W = .ok (.slice A1 nn cc) W) (HM : Hid (∀ W, Below w.heap.size w W → Calls Try.prog 28 #[.slice A1 nn cc] W (RetNum (q, m) W))) (h4 : m = 0) : Calls Try.prog 17 #[.slice (some ⟨b, off, none⟩) n c] w (RetTok w (zeroTok, 0)) := by
  have K0 : ((k : Int) == 0) = false := by simp; omega
  subst h2 h4
  go_enter Try.func17, Try.ntmps17
  go_wp2_with fail
  refine (HN.out _ (below_al (Below.refl _ _) _)).mono ?_
  rintro e1 w1 ⟨rfl, rfl⟩
  go_wp2_with fail
  refine (HM.out _ (below_al (Below.refl _ _) _)).mono ?_
  rintro e2 w2 ⟨rfl, rfl⟩
  go_wp2_with fail
  go_returns
  exact ⟨_, rfl, rfl, rfl⟩
set_option maxHeartbeats 400000 in
theorem braces_less (b off n c k : Nat) (a : Int) (w : World) (hc : n ≤ c) (hn : n ≤ 1000) (hk2 : k ≤ 2) (hb : b < w.heap.size) (HN : Hid (∀ W, Below w.heap.size w W → Calls Try.prog 28 #[.slice (some ⟨b, off, none⟩) n c] W (RetNum (a, k) W))) (x y q : Int) (m nn cc : Nat) (A1 : Option Addr) (h0 : k ≠ 0) (h1 : k + 1 < n) (c0 : w.cell? ⟨b, off + k, none⟩ = some (.int .i64 x)) (h2 : x = 44) (c1 : w.cell? ⟨b, off + (k + 1), none⟩ = some (.int .i64 y)) (h3 : (y == 125) = false) (hm2 : m ≤ 2) (hsl : ∀ W, (Instr.slice 38 (.slice (some ⟨b, off, none⟩) n c) (some (.int .i64 ((k : Int) + 1))) none none).run Try.prog W = .ok (.slice A1 nn cc) W) (HM : Hid (∀ W, Below w.heap.size w W → Calls Try.prog 28 #[.slice A1 nn cc] W (RetNum (q, m) W))) (h4 : m ≠ 0) (h5 : q < a) : Calls Try.prog 17 #[.slice (some ⟨b, off, none⟩) n c] w (RetTok w (zeroTok, 0)) := by
  have K0 : ((k : Int) == 0) = false := by simp; omega
  have M0 : ((m : Int) == 0) = false := by simp; omega
  subst h2
  go_enter Try.func17, Try.ntmps17
  go_wp2_with fail
  refine (HN.out _ (below_al (Below.refl _ _) _)).mono ?_
  rintro e1 w1 ⟨rfl, rfl⟩
  go_wp2_with fail
  refine (HM.out _ (below_al (Below.refl _ _) _)).mono ?_
  rintro e2 w2 ⟨rfl, rfl⟩
  go_wp2_with fail
  go_returns
  exact ⟨_, rfl, rfl, rfl⟩
set_option maxHeartbeats 400000 in
theorem braces_end2 (b off n c k : Nat) (a : Int) (w : World) (hc : n ≤ c) (hn : n ≤ 1000) (hk2 : k ≤ 2) (hb : b < w.heap.size) (HN : Hid (∀ W, Below w.heap.size w W → Calls Try.prog 28 #[.slice (some ⟨b, off, none⟩) n c] W (RetNum (a, k) W))) (x y q : Int) (m nn cc : Nat) (A1 : Option Addr) (h0 : k ≠ 0) (h1 : k + 1 < n) (c0 : w.cell? ⟨b, off + k, none⟩ = some (.int .i64 x)) (h2 : x = 44) (c1 : w.cell? ⟨b, off + (k + 1), none⟩ = some (.int .i64 y)) (h3 : (y == 125) = false) (hm2 : m ≤ 2) (hsl : ∀ W, (Instr.slice 38 (.slice (some ⟨b, off, none⟩) n c) (some (.int .i64 ((k : Int) + 1))) none none).run Try.prog W = .ok (.slice A1 nn cc) W) (HM : Hid (∀ W, Below w.heap.size w W → Calls Try.prog 28 #[.slice A1 nn cc] W (RetNum (q, m) W))) (h4 : m ≠ 0) (h5 : ¬ q < a) (h6 : n ≤ k + 1 + m) : Calls Try.prog 17 #[.slice (some ⟨b, off, none⟩) n c] w (RetTok w (zeroTok, 0)) := by
  have K0 : ((k : Int) == 0) = false := by simp; omega
  have M0 : ((m : Int) == 0) = false := by simp; omega
  subst h2
  go_enter Try.func17, Try.ntmps17
  go_wp2_with fail
  refine (HN.out _ (below_al (Below.refl _ _) _)).mono ?_
  rintro e1 w1 ⟨rfl, rfl⟩
  go_wp2_with fail
  refine (HM.out _ (below_al (Below.refl _ _) _)).mono ?_
  rintro e2 w2 ⟨rfl, rfl⟩
  go_wp2_with fail
  go_returns
  exact ⟨_, rfl, rfl, rfl⟩
set_option maxHeartbeats 400000 in
theorem braces_bad2 (b off n c k : Nat) (a : Int) (w : World) (hc : n ≤ c) (hn : n ≤ 1000) (hk2 : k ≤ 2) (hb : b < w.heap.size) (HN : Hid (∀ W, Below w.heap.size w W → Calls Try.prog 28 #[.slice (some ⟨b, off, none⟩) n c] W (RetNum (a, k) W))) (x y q : Int) (m nn cc : Nat) (A1 : Option Addr) (h0 : k ≠ 0) (h1 : k + 1 < n) (c0 : w.cell? ⟨b, off + k, none⟩ = some (.int .i64 x)) (h2 : x = 44) (c1 : w.cell? ⟨b, off + (k + 1), none⟩ = some (.int .i64 y)) (h3 : (y == 125) = false) (hm2 : m ≤ 2) (hsl : ∀ W, (Instr.slice 38 (.slice (some ⟨b, off, none⟩) n c) (some (.int .i64 ((k : Int) + 1))) none none).run Try.prog W = .ok (.slice A1 nn cc) W) (HM : Hid (∀ W, Below w.heap.size w W → Calls Try.prog 28 #[.slice A1 nn cc] W (RetNum (q, m) W))) (h4 : m ≠ 0) (h5 : ¬ q < a) (h6 : k + 1 + m < n) (z : Int) (c2 : w.cell? ⟨b, off + (k + 1 + m), none⟩ = some (.int .i64 z)) (h7 : (z != 125) = true) : Calls Try.prog 17 #[.slice (some ⟨b, off, none⟩) n c] w (RetTok w (zeroTok, 0)) := by
  have K0 : ((k : Int) == 0) = false := by simp; omega
  have M0 : ((m : Int) == 0) = false := by simp; omega
  subst h2
  go_enter Try.func17, Try.ntmps17
  go_wp2_with fail
  refine (HN.out _ (below_al (Below.refl _ _) _)).mono ?_
  rintro e1 w1 ⟨rfl, rfl⟩
  go_wp2_with fail
  refine (HM.out _ (below_al (Below.refl _ _) _)).mono ?_
  rintro e2 w2 ⟨rfl, rfl⟩
  go_wp2_with fail
  go_returns
  exact ⟨_, rfl, rfl, rfl⟩
set_option maxHeartbeats 400000 in
theorem braces_two (b off n c k : Nat) (a : Int) (w : World) (hc : n ≤ c) (hn : n ≤ 1000) (hk2 : k ≤ 2) (hb : b < w.heap.size) (HN : Hid (∀ W, Below w.heap.size w W → Calls Try.prog 28 #[.slice (some ⟨b, off, none⟩) n c] W (RetNum (a, k) W))) (x y q : Int) (m nn cc : Nat) (A1 : Option Addr) (h0 : k ≠ 0) (h1 : k + 1 < n) (c0 : w.cell? ⟨b, off + k, none⟩ = some (.int .i64 x)) (h2 : x = 44) (c1 : w.cell? ⟨b, off + (k + 1), none⟩ = some (.int .i64 y)) (h3 : (y == 125) = false) (hm2 : m ≤ 2) (hsl : ∀ W, (Instr.slice 38 (.slice (some ⟨b, off, none⟩) n c) (some (.int .i64 ((k : Int) + 1))) none none).run Try.prog W = .ok (.slice A1 nn cc) W) (HM : Hid (∀ W, Below w.heap.size w W → Calls Try.prog 28 #[.slice A1 nn cc] W (RetNum (q, m) W))) (h4 : m ≠ 0) (h5 : ¬ q < a) (h6 : k + 1 + m < n) (z : Int) (c2 : w.cell? ⟨b, off + (k + 1 + m), none⟩ = some (.int .i64 z)) (h7 : z = 125) : Calls Try.prog 17 #[.slice (some ⟨b, off, none⟩) n c] w (RetTok w (cntTok a q, k + m + 2)) := by
  have K0 : ((k : Int) == 0) = false := by simp; omega
  have M0 : ((m : Int) == 0) = false := by simp; omega
  subst h2 h7
  go_enter Try.func17, Try.ntmps17
  go_wp2_with fail
  refine (HN.out _ (below_al (Below.refl _ _) _)).mono ?_
  rintro e1 w1 ⟨rfl, rfl⟩
  go_wp2_with fail
  refine (HM.out _ (below_al (Below.refl _ _) _)).mono ?_
  rintro e2 w2 ⟨rfl, rfl⟩
  go_wp2_with fail
  go_returns
  exact ⟨_, rfl, rfl, rfl⟩
end Go.Proofs.Ytgfienopijlnkaa
