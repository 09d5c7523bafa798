/-
  the contract of reedbedref09.braces; the contracts of reedbedref09's braces, in and named; no condition beyond those that each theorem states.
-/
import Derived.Test.YtjfkppbfckgckaaG02
import Derived.Laws.Slices
set_option linter.unusedVariables false
set_option linter.unusedSimpArgs false
namespace Go.Rb
open Go.RowKit
theorem rd_tail {P : Program} {w : World} {B sz n c : Nat} {A : Option Addr} {xs : List Value} (t : TypeId) (ht : P.underlying t = some (.slice (P.elem t))) (hs : ∀ W, (sizeOf (P.elem t)).run P W = .ok sz W)
    (h : Rd w B sz A n xs) (hnc : n ≤ c) (k : Nat) (hk : k ≤ n) :
    ∃ A' c', (∀ W, (Instr.slice t (.slice A n c) (some (.int .i64 (k : Int))) none none).run P W = .ok (.slice A' (n - k) c') W) ∧ Rd w B sz A' (n - k) (xs.drop (k * sz)) ∧ n - k ≤ c' ∧ c' ≤ c := by
  have hrun : ∀ W, (Instr.slice t (.slice A n c) (some (.int .i64 (k : Int))) none none).run P W = .ok (sliced A k n c sz) W := fun W => by
    rw [run_slice_l (P := P) W t A n c ht .i64 (k : Int) (by omega) (by omega), hs W]
    simp [Result.andThen]
  have hl : (xs.drop (k * sz)).length = (n - k) * sz := by rw [List.length_drop, h.1, Nat.sub_mul]
  by_cases hkn : k < n
  · obtain ⟨b, off, rfl, hb, hx⟩ := h.2 (by omega)
    refine ⟨some ⟨b, off + k * sz, none⟩, c - k, fun W => (hrun W).trans ?_, ⟨hl, fun _ => ⟨b, off + k * sz, rfl, hb, fun i hi => ?_⟩⟩, by omega, by omega⟩
    · simp only [sliced, Option.map_some, Addr.add_lit]
      rw [if_neg (by omega)]
    · rw [List.getElem?_drop, Nat.add_assoc, hx (k * sz + i) (by rw [Nat.sub_mul] at hi; omega)]
  · obtain rfl : k = n := by omega
    refine ⟨A.map fun a => if c = k then a else a.add (k * sz), c - k, fun W => (hrun W).trans ?_, ⟨hl, fun h0 => by omega⟩, by omega, by omega⟩
    simp only [sliced]
    cases A <;> simp <;> split <;> simp
end Go.Rb
namespace Go.Proofs.Ytjfkppbfckgckaa
set_option maxRecDepth 20000
open Go.RowKit Go.Rb
attribute [local irreducible] Go.wpQuiet

/-- A token that is a count, or none. -/
def zeroTok : Value := .agg #[.int .i64 0, .int .i64 0, .slice none 0 0, .int .i64 0, .int .i64 0]
def cntTok (a b : Int) : Value := .agg #[.int .i64 2, .int .i64 0, .slice none 0 0, .int .i64 a, .int .i64 b]
def RetTok (w : World) (p : Value × Nat) (e : Ending) (w' : World) : Prop := ∃ cs, p.1 = .agg cs ∧ w' = w.alloc (.cells cs 74) ∧ e = .returned (.tuple #[p.1, .int .i64 (p.2 : Int)])
theorem num_bd (l : List Int) : (num l).2 ≤ 2 ∧ (num l).2 ≤ l.length ∧ 0 ≤ (num l).1 ∧ (num l).1 ≤ 50 := by
  match l with
  | [] => simp [num]
  | [a] =>
    simp only [num]
    split
    · rename_i h; simp [isDig] at h; simp; omega
    · simp
  | a :: d :: rest =>
    simp only [num]
    split
    · rename_i h
      simp [isDig] at h
      split
      · rename_i h2
        simp [isDig] at h2
        split
        · simp
        · simp; omega
      · simp; omega
    · simp
set_option maxHeartbeats 400000 in
theorem braces_none (A : Option Addr) (n c k : Nat) (a : Int) (w : World) (hc : n ≤ c) (hn : n ≤ 1000) (hk2 : k ≤ 2) (HN : Hid (∀ W, Below w.heap.size w W → Calls Try.prog 63 #[.slice A n c] W (RetNum (a, k) W))) (h0 : k = 0) : Calls Try.prog 50 #[.slice A n c] w (RetTok w (zeroTok, 0)) := by
  subst h0
  go_enter Try.func50, Try.ntmps50
  go_wp2_with fail
  refine (HN.out _ (below_al (Below.refl _ _) _)).mono ?_
  rintro e1 w1 ⟨rfl, rfl⟩
  go_wp2_with fail
  go_returns
  exact ⟨_, rfl, rfl, rfl⟩
set_option maxHeartbeats 400000 in
theorem braces_end (b off n c k : Nat) (a : Int) (w : World) (hc : n ≤ c) (hn : n ≤ 1000) (hk2 : k ≤ 2) (hb : b < w.heap.size) (HN : Hid (∀ W, Below w.heap.size w W → Calls Try.prog 63 #[.slice (some ⟨b, off, none⟩) n c] W (RetNum (a, k) W))) (h0 : k ≠ 0) (h1 : n ≤ k) : Calls Try.prog 50 #[.slice (some ⟨b, off, none⟩) n c] w (RetTok w (zeroTok, 0)) := by
  have K0 : ((k : Int) == 0) = false := by simp; omega
  go_enter Try.func50, Try.ntmps50
  go_wp2_with fail
  refine (HN.out _ (below_al (Below.refl _ _) _)).mono ?_
  rintro e1 w1 ⟨rfl, rfl⟩
  go_wp2_with fail
  go_returns
  exact ⟨_, rfl, rfl, rfl⟩
set_option maxHeartbeats 400000 in
theorem braces_one (b off n c k : Nat) (a : Int) (w : World) (hc : n ≤ c) (hn : n ≤ 1000) (hk2 : k ≤ 2) (hb : b < w.heap.size) (HN : Hid (∀ W, Below w.heap.size w W → Calls Try.prog 63 #[.slice (some ⟨b, off, none⟩) n c] W (RetNum (a, k) W))) (x : Int) (h0 : k ≠ 0) (h1 : k < n) (c0 : w.cell? ⟨b, off + k, none⟩ = some (.int .i64 x)) (h2 : x = 125) : Calls Try.prog 50 #[.slice (some ⟨b, off, none⟩) n c] w (RetTok w (cntTok a a, k + 1)) := by
  have K0 : ((k : Int) == 0) = false := by simp; omega
  subst h2
  go_enter Try.func50, Try.ntmps50
  go_wp2_with fail
  refine (HN.out _ (below_al (Below.refl _ _) _)).mono ?_
  rintro e1 w1 ⟨rfl, rfl⟩
  go_wp2_with fail
  go_returns
  exact ⟨_, rfl, rfl, rfl⟩
set_option maxHeartbeats 400000 in
theorem braces_bad (b off n c k : Nat) (a : Int) (w : World) (hc : n ≤ c) (hn : n ≤ 1000) (hk2 : k ≤ 2) (hb : b < w.heap.size) (HN : Hid (∀ W, Below w.heap.size w W → Calls Try.prog 63 #[.slice (some ⟨b, off, none⟩) n c] W (RetNum (a, k) W))) (x : Int) (h0 : k ≠ 0) (h1 : k < n) (c0 : w.cell? ⟨b, off + k, none⟩ = some (.int .i64 x)) (h2 : (x == 125) = false) (h3 : x ≠ 44) : Calls Try.prog 50 #[.slice (some ⟨b, off, none⟩) n c] w (RetTok w (zeroTok, 0)) := by
  have K0 : ((k : Int) == 0) = false := by simp; omega
  go_enter Try.func50, Try.ntmps50
  go_wp2_with fail
  refine (HN.out _ (below_al (Below.refl _ _) _)).mono ?_
  rintro e1 w1 ⟨rfl, rfl⟩
  go_wp2_with fail
  go_returns
  exact ⟨_, rfl, rfl, rfl⟩
set_option maxHeartbeats 400000 in
theorem braces_open (b off n c k : Nat) (a : Int) (w : World) (hc : n ≤ c) (hn : n ≤ 1000) (hk2 : k ≤ 2) (hb : b < w.heap.size) (HN : Hid (∀ W, Below w.heap.size w W → Calls Try.prog 63 #[.slice (some ⟨b, off, none⟩) n c] W (RetNum (a, k) W))) (x : Int) (h0 : k ≠ 0) (h1 : k < n) (c0 : w.cell? ⟨b, off + k, none⟩ = some (.int .i64 x)) (h2 : x = 44) (h3 : n ≤ k + 1) : Calls Try.prog 50 #[.slice (some ⟨b, off, none⟩) n c] w (RetTok w (zeroTok, 0)) := by
  have K0 : ((k : Int) == 0) = false := by simp; omega
  subst h2
  go_enter Try.func50, Try.ntmps50
  go_wp2_with fail
  refine (HN.out _ (below_al (Below.refl _ _) _)).mono ?_
  rintro e1 w1 ⟨rfl, rfl⟩
  go_wp2_with fail
  go_returns
  exact ⟨_, rfl, rfl, rfl⟩
set_option maxHeartbeats 400000 in
theorem braces_more (b off n c k : Nat) (a : Int) (w : World) (hc : n ≤ c) (hn : n ≤ 1000) (hk2 : k ≤ 2) (hb : b < w.heap.size) (HN : Hid (∀ W, Below w.heap.size w W → Calls Try.prog 63 #[.slice (some ⟨b, off, none⟩) n c] W (RetNum (a, k) W))) (x y : Int) (h0 : k ≠ 0) (h1 : k + 1 < n) (c0 : w.cell? ⟨b, off + k, none⟩ = some (.int .i64 x)) (h2 : x = 44) (c1 : w.cell? ⟨b, off + (k + 1), none⟩ = some (.int .i64 y)) (h3 : y = 125) : Calls Try.prog 50 #[.slice (some ⟨b, off, none⟩) n c] w (RetTok w (cntTok a (-1), k + 2)) := by
  have K0 : ((k : Int) == 0) = false := by simp; omega
  subst h2 h3
  go_enter Try.func50, Try.ntmps50
  go_wp2_with fail
  refine (HN.out _ (below_al (Below.refl _ _) _)).mono ?_
  rintro e1 w1 ⟨rfl, rfl⟩
  go_wp2_with fail
  go_returns
  exact ⟨_, rfl, rfl, rfl⟩
set_option maxHeartbeats 400000 in
theorem braces_no2 (b off n c k : Nat) (a : Int) (w : World) (hc : n ≤ c) (hn : n ≤ 1000) (hk2 : k ≤ 2) (hb : b < w.heap.size) (HN : Hid (∀ W, Below w.heap.size w W → Calls Try.prog 63 #[.slice (some ⟨b, off, none⟩) n c] W (RetNum (a, k) W))) (x y q : Int) (m nn cc : Nat) (A1 : Option Addr) (h0 : k ≠ 0) (h1 : k + 1 < n) (c0 : w.cell? ⟨b, off + k, none⟩ = some (.int .i64 x)) (h2 : x = 44) (c1 : w.cell? ⟨b, off + (k + 1), none⟩ = some (.int .i64 y)) (h3 : (y == 125) = false) (hm2 : m ≤ 2) (hsl : ∀ W, (Instr.slice 38 (.slice (some ⟨b, off, none⟩) n c) (some (.int .i64 ((k : Int) + 1))) none none).run Try.prog W = .ok (.slice A1 nn cc) W) (HM : Hid (∀ W, Below w.heap.size w W → Calls Try.prog 63 #[.slice A1 nn cc] W (RetNum (q, m) W))) (h4 : m = 0) : Calls Try.prog 50 #[.slice (some ⟨b, off, none⟩) n c] w (RetTok w (zeroTok, 0)) := by
  have K0 : ((k : Int) == 0) = false := by simp; omega
  subst h2 h4
  go_enter Try.func50, Try.ntmps50
  go_wp2_with fail
  refine (HN.out _ (below_al (Below.refl _ _) _)).mono ?_
  rintro e1 w1 ⟨rfl, rfl⟩
  go_wp2_with fail
  refine (HM.out _ (below_al (Below.refl _ _) _)).mono ?_
  rintro e2 w2 ⟨rfl, rfl⟩
  go_wp2_with fail
  go_returns
  exact ⟨_, rfl, rfl, rfl⟩
set_option maxHeartbeats 400000 in
theorem braces_less (b off n c k : Nat) (a : Int) (w : World) (hc : n ≤ c) (hn : n ≤ 1000) (hk2 : k ≤ 2) (hb : b < w.heap.size) (HN : Hid (∀ W, Below w.heap.size w W → Calls Try.prog 63 #[.slice (some ⟨b, off, none⟩) n c] W (RetNum (a, k) W))) (x y q : Int) (m nn cc : Nat) (A1 : Option Addr) (h0 : k ≠ 0) (h1 : k + 1 < n) (c0 : w.cell? ⟨b, off + k, none⟩ = some (.int .i64 x)) (h2 : x = 44) (c1 : w.cell? ⟨b, off + (k + 1), none⟩ = some (.int .i64 y)) (h3 : (y == 125) = false) (hm2 : m ≤ 2) (hsl : ∀ W, (Instr.slice 38 (.slice (some ⟨b, off, none⟩) n c) (some (.int .i64 ((k : Int) + 1))) none none).run Try.prog W = .ok (.slice A1 nn cc) W) (HM : Hid (∀ W, Below w.heap.size w W → Calls Try.prog 63 #[.slice A1 nn cc] W (RetNum (q, m) W))) (h4 : m ≠ 0) (h5 : q < a) : Calls Try.prog 50 #[.slice (some ⟨b, off, none⟩) n c] w (RetTok w (zeroTok, 0)) := by
  have K0 : ((k : Int) == 0) = false := by simp; omega
  have M0 : ((m : Int) == 0) = false := by simp; omega
  subst h2
  go_enter Try.func50, Try.ntmps50
  go_wp2_with fail
  refine (HN.out _ (below_al (Below.refl _ _) _)).mono ?_
  rintro e1 w1 ⟨rfl, rfl⟩
  go_wp2_with fail
  refine (HM.out _ (below_al (Below.refl _ _) _)).mono ?_
  rintro e2 w2 ⟨rfl, rfl⟩
  go_wp2_with fail
  go_returns
  exact ⟨_, rfl, rfl, rfl⟩
set_option maxHeartbeats 400000 in
theorem braces_end2 (b off n c k : Nat) (a : Int) (w : World) (hc : n ≤ c) (hn : n ≤ 1000) (hk2 : k ≤ 2) (hb : b < w.heap.size) (HN : Hid (∀ W, Below w.heap.size w W → Calls Try.prog 63 #[.slice (some ⟨b, off, none⟩) n c] W (RetNum (a, k) W))) (x y q : Int) (m nn cc : Nat) (A1 : Option Addr) (h0 : k ≠ 0) (h1 : k + 1 < n) (c0 : w.cell? ⟨b, off + k, none⟩ = some (.int .i64 x)) (h2 : x = 44) (c1 : w.cell? ⟨b, off + (k + 1), none⟩ = some (.int .i64 y)) (h3 : (y == 125) = false) (hm2 : m ≤ 2) (hsl : ∀ W, (Instr.slice 38 (.slice (some ⟨b, off, none⟩) n c) (some (.int .i64 ((k : Int) + 1))) none none).run Try.prog W = .ok (.slice A1 nn cc) W) (HM : Hid (∀ W, Below w.heap.size w W → Calls Try.prog 63 #[.slice A1 nn cc] W (RetNum (q, m) W))) (h4 : m ≠ 0) (h5 : ¬ q < a) (h6 : n ≤ k + 1 + m) : Calls Try.prog 50 #[.slice (some ⟨b, off, none⟩) n c] w (RetTok w (zeroTok, 0)) := by
  have K0 : ((k : Int) == 0) = false := by simp; omega
  have M0 : ((m : Int) == 0) = false := by simp; omega
  subst h2
  go_enter Try.func50, Try.ntmps50
  go_wp2_with fail
  refine (HN.out _ (below_al (Below.refl _ _) _)).mono ?_
  rintro e1 w1 ⟨rfl, rfl⟩
  go_wp2_with fail
  refine (HM.out _ (below_al (Below.refl _ _) _)).mono ?_
  rintro e2 w2 ⟨rfl, rfl⟩
  go_wp2_with fail
  go_returns
  exact ⟨_, rfl, rfl, rfl⟩
set_option maxHeartbeats 400000 in
theorem braces_bad2 (b off n c k : Nat) (a : Int) (w : World) (hc : n ≤ c) (hn : n ≤ 1000) (hk2 : k ≤ 2) (hb : b < w.heap.size) (HN : Hid (∀ W, Below w.heap.size w W → Calls Try.prog 63 #[.slice (some ⟨b, off, none⟩) n c] W (RetNum (a, k) W))) (x y q : Int) (m nn cc : Nat) (A1 : Option Addr) (h0 : k ≠ 0) (h1 : k + 1 < n) (c0 : w.cell? ⟨b, off + k, none⟩ = some (.int .i64 x)) (h2 : x = 44) (c1 : w.cell? ⟨b, off + (k + 1), none⟩ = some (.int .i64 y)) (h3 : (y == 125) = false) (hm2 : m ≤ 2) (hsl : ∀ W, (Instr.slice 38 (.slice (some ⟨b, off, none⟩) n c) (some (.int .i64 ((k : Int) + 1))) none none).run Try.prog W = .ok (.slice A1 nn cc) W) (HM : Hid (∀ W, Below w.heap.size w W → Calls Try.prog 63 #[.slice A1 nn cc] W (RetNum (q, m) W))) (h4 : m ≠ 0) (h5 : ¬ q < a) (h6 : k + 1 + m < n) (z : Int) (c2 : w.cell? ⟨b, off + (k + 1 + m), none⟩ = some (.int .i64 z)) (h7 : (z != 125) = true) : Calls Try.prog 50 #[.slice (some ⟨b, off, none⟩) n c] w (RetTok w (zeroTok, 0)) := by
  have K0 : ((k : Int) == 0) = false := by simp; omega
  have M0 : ((m : Int) == 0) = false := by simp; omega
  subst h2
  go_enter Try.func50, Try.ntmps50
  go_wp2_with fail
  refine (HN.out _ (below_al (Below.refl _ _) _)).mono ?_
  rintro e1 w1 ⟨rfl, rfl⟩
  go_wp2_with fail
  refine (HM.out _ (below_al (Below.refl _ _) _)).mono ?_
  rintro e2 w2 ⟨rfl, rfl⟩
  go_wp2_with fail
  go_returns
  exact ⟨_, rfl, rfl, rfl⟩
set_option maxHeartbeats 400000 in
theorem braces_two (b off n c k : Nat) (a : Int) (w : World) (hc : n ≤ c) (hn : n ≤ 1000) (hk2 : k ≤ 2) (hb : b < w.heap.size) (HN : Hid (∀ W, Below w.heap.size w W → Calls Try.prog 63 #[.slice (some ⟨b, off, none⟩) n c] W (RetNum (a, k) W))) (x y q : Int) (m nn cc : Nat) (A1 : Option Addr) (h0 : k ≠ 0) (h1 : k + 1 < n) (c0 : w.cell? ⟨b, off + k, none⟩ = some (.int .i64 x)) (h2 : x = 44) (c1 : w.cell? ⟨b, off + (k + 1), none⟩ = some (.int .i64 y)) (h3 : (y == 125) = false) (hm2 : m ≤ 2) (hsl : ∀ W, (Instr.slice 38 (.slice (some ⟨b, off, none⟩) n c) (some (.int .i64 ((k : Int) + 1))) none none).run Try.prog W = .ok (.slice A1 nn cc) W) (HM : Hid (∀ W, Below w.heap.size w W → Calls Try.prog 63 #[.slice A1 nn cc] W (RetNum (q, m) W))) (h4 : m ≠ 0) (h5 : ¬ q < a) (h6 : k + 1 + m < n) (z : Int) (c2 : w.cell? ⟨b, off + (k + 1 + m), none⟩ = some (.int .i64 z)) (h7 : z = 125) : Calls Try.prog 50 #[.slice (some ⟨b, off, none⟩) n c] w (RetTok w (cntTok a q, k + m + 2)) := by
  have K0 : ((k : Int) == 0) = false := by simp; omega
  have M0 : ((m : Int) == 0) = false := by simp; omega
  subst h2 h7
  go_enter Try.func50, Try.ntmps50
  go_wp2_with fail
  refine (HN.out _ (below_al (Below.refl _ _) _)).mono ?_
  rintro e1 w1 ⟨rfl, rfl⟩
  go_wp2_with fail
  refine (HM.out _ (below_al (Below.refl _ _) _)).mono ?_
  rintro e2 w2 ⟨rfl, rfl⟩
  go_wp2_with fail
  go_returns
  exact ⟨_, rfl, rfl, rfl⟩
end Go.Proofs.Ytjfkppbfckgckaa
namespace Go.Proofs.Ytjfkppbfckgckaa
set_option maxRecDepth 20000
open Go.RowKit Go.Rb
attribute [local irreducible] Go.wpQuiet

/-- A count behind its brace: the least, the most, how many code points (0: there is none). -/
def brc (l : List Int) : Int × Int × Nat :=
  if (num l).2 = 0 then (0, 0, 0) else if l.length ≤ (num l).2 then (0, 0, 0)
  else if l.getD (num l).2 0 = 125 then ((num l).1, (num l).1, (num l).2 + 1)
  else if l.getD (num l).2 0 ≠ 44 then (0, 0, 0) else if l.length ≤ (num l).2 + 1 then (0, 0, 0)
  else if l.getD ((num l).2 + 1) 0 = 125 then ((num l).1, -1, (num l).2 + 2)
  else if (num (l.drop ((num l).2 + 1))).2 = 0 then (0, 0, 0) else if (num (l.drop ((num l).2 + 1))).1 < (num l).1 then (0, 0, 0)
  else if l.length ≤ (num l).2 + 1 + (num (l.drop ((num l).2 + 1))).2 then (0, 0, 0)
  else if l.getD ((num l).2 + 1 + (num (l.drop ((num l).2 + 1))).2) 0 ≠ 125 then (0, 0, 0)
  else ((num l).1, (num (l.drop ((num l).2 + 1))).1, (num l).2 + (num (l.drop ((num l).2 + 1))).2 + 2)
def brcV (p : Int × Int × Nat) : Value × Nat := (if p.2.2 = 0 then zeroTok else cntTok p.1 p.2.1, p.2.2)
theorem brcV_0 : brcV (0, 0, 0) = (zeroTok, 0) := rfl
theorem brcV_s (a b : Int) (k : Nat) : brcV (a, b, k + 1) = (cntTok a b, k + 1) := rfl
theorem Rd.num_ {w : World} {B n : Nat} {A : Option Addr} {l : List Int} (h : Rd w B 1 A n (l.map iV)) (hn : 0 < n) : ∃ b off, A = some ⟨b, off, none⟩ ∧ b < B ∧ ∀ i, i < n → w.cell? ⟨b, off + i, none⟩ = some (.int .i64 (l.getD i 0)) := by
  obtain ⟨b, off, hA, hb, hc⟩ := h.2 hn
  have hl : l.length = n := by simpa using h.1
  refine ⟨b, off, hA, hb, fun i hi => ?_⟩
  rw [hc i (by omega), List.getElem?_map, List.getD, List.getElem?_eq_getElem (by omega)]
  rfl
theorem braces_any (l : List Int) (A : Option Addr) (n c B : Nat) (w : World) (hr : Rd w B 1 A n (l.map iV)) (hB : B ≤ w.heap.size) (hc : n ≤ c) (hn : n ≤ 1000) :
    Calls Try.prog 50 #[.slice A n c] w (RetTok w (brcV (brc l))) := by
  have hl : l.length = n := by simpa using hr.1
  obtain ⟨hk2, hkn, hv0, hv50⟩ := num_bd l
  have HN : Hid (∀ W, Below w.heap.size w W → Calls Try.prog 63 #[.slice A n c] W (RetNum (num l) W)) := fun W hW => number_any l A n c B W (hr.below (hW.mono hB)) hc
  unfold brc
  obtain ⟨p, hp⟩ : ∃ p, num l = p := ⟨_, rfl⟩
  obtain ⟨a, k⟩ := p
  rw [hp] at HN hk2 hkn hv0 hv50 ⊢
  simp only at hk2 hkn hv0 hv50 ⊢
  by_cases h0 : k = 0
  · rw [if_pos h0]
    exact braces_none A n c k a w hc hn hk2 HN h0
  rw [if_neg h0]
  obtain ⟨b, off, rfl, hb, hcell⟩ := Rd.num_ hr (by omega)
  have hb' : b < w.heap.size := by omega
  by_cases h1 : l.length ≤ k
  · rw [if_pos h1]
    exact braces_end b off n c k a w hc hn hk2 hb' HN h0 (by omega)
  rw [if_neg h1]
  have c0 := hcell k (by omega)
  generalize l.getD k 0 = x at *
  by_cases h2 : x = 125
  · rw [if_pos h2]
    exact braces_one b off n c k a w hc hn hk2 hb' HN x h0 (by omega) c0 h2
  rw [if_neg h2]
  by_cases h3 : x = 44
  · rw [if_neg (by simpa using h3)]
    by_cases h4 : l.length ≤ k + 1
    · rw [if_pos h4]
      exact braces_open b off n c k a w hc hn hk2 hb' HN x h0 (by omega) c0 h3 (by omega)
    rw [if_neg h4]
    have c1 := hcell (k + 1) (by omega)
    generalize l.getD (k + 1) 0 = y at *
    by_cases h5 : y = 125
    · rw [if_pos h5]
      exact braces_more b off n c k a w hc hn hk2 hb' HN x y h0 (by omega) c0 h3 c1 h5
    rw [if_neg h5]
    obtain ⟨A1, cc, hsl, hr1, hc1, -⟩ := rd_tail (P := Try.prog) 38 Try.underlying38 (fun W => by kernel_rfl) hr hc (k + 1) (by omega)
    have hsl' : ∀ W, (Instr.slice 38 (.slice (some ⟨b, off, none⟩) n c) (some (.int .i64 ((k : Int) + 1))) none none).run Try.prog W = .ok (.slice A1 (n - (k + 1)) cc) W := hsl
    rw [Nat.mul_one, ← List.map_drop] at hr1
    have HM : Hid (∀ W, Below w.heap.size w W → Calls Try.prog 63 #[.slice A1 (n - (k + 1)) cc] W (RetNum (num (l.drop (k + 1))) W)) := fun W hW => number_any _ A1 _ cc B W (hr1.below (hW.mono hB)) hc1
    have hm2 := (num_bd (l.drop (k + 1))).1
    obtain ⟨p2, hp2⟩ : ∃ p, num (l.drop (k + 1)) = p := ⟨_, rfl⟩
    obtain ⟨q, m⟩ := p2
    rw [hp2] at HM hm2 ⊢
    simp only at hm2 ⊢
    have h5' : (y == 125) = false := by simpa using h5
    by_cases h6 : m = 0
    · rw [if_pos h6]
      exact braces_no2 b off n c k a w hc hn hk2 hb' HN x y q m _ cc A1 h0 (by omega) c0 h3 c1 h5' hm2 hsl' HM h6
    rw [if_neg h6]
    by_cases h7 : q < a
    · rw [if_pos h7]
      exact braces_less b off n c k a w hc hn hk2 hb' HN x y q m _ cc A1 h0 (by omega) c0 h3 c1 h5' hm2 hsl' HM h6 h7
    rw [if_neg h7]
    by_cases h8 : l.length ≤ k + 1 + m
    · rw [if_pos h8]
      exact braces_end2 b off n c k a w hc hn hk2 hb' HN x y q m _ cc A1 h0 (by omega) c0 h3 c1 h5' hm2 hsl' HM h6 h7 (by omega)
    rw [if_neg h8]
    have c2 := hcell (k + 1 + m) (by omega)
    generalize l.getD (k + 1 + m) 0 = z at *
    by_cases h9 : z = 125
    · rw [if_neg (by simpa using h9)]
      exact braces_two b off n c k a w hc hn hk2 hb' HN x y q m _ cc A1 h0 (by omega) c0 h3 c1 h5' hm2 hsl' HM h6 h7 (by omega) z c2 h9
    · rw [if_pos h9]
      exact braces_bad2 b off n c k a w hc hn hk2 hb' HN x y q m _ cc A1 h0 (by omega) c0 h3 c1 h5' hm2 hsl' HM h6 h7 (by omega) z c2 (by simpa using h9)
  · rw [if_pos h3]
    exact braces_bad b off n c k a w hc hn hk2 hb' HN x h0 (by omega) c0 (by simpa using h2) h3
end Go.Proofs.Ytjfkppbfckgckaa
