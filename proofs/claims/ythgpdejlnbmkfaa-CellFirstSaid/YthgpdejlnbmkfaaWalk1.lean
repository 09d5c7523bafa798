/-
  Contracts of the reference functions First and Count of reedbedref16, and of the plain lists that they compute; no condition beyond those that each theorem states.
-/
import Derived.Test.YthgpdejlnbmkfaaRows
import Derived.WalkKit
import Derived.WalkSpells
import Derived.WalkLawsBesides
import Derived.Lib.Hide
namespace Go.Proofs.Ythgpdejlnbmkfaa
open Go.RowKit

structure Rpt where
  cause : Int
  note : ByteArray
  time : Int

def rptV (r : Rpt) : Value := .agg #[.int .i64 r.cause, .string r.note, .int .i64 r.time]
def zeroR : Rpt := ⟨0, ⟨#[]⟩, 0⟩
def firstOf : List Rpt → Rpt
  | [] => zeroR
  | r :: l => if (r.cause == 0) then firstOf l else r
def countOf : List Rpt → Nat
  | [] => 0
  | r :: l => (if (r.cause == 0) then 0 else 1) + countOf l

/-- A slice's cells hold the reports. -/
def RdR (w : World) (B : Nat) (A : Option Addr) (rs : List Rpt) : Prop :=
  ∀ i (h : i < rs.length), ∃ b off, A = some ⟨b, off, none⟩ ∧ b < B ∧ w.cell? ⟨b, off + i * 3, none⟩ = some (.int .i64 rs[i].cause) ∧
    w.cell? ⟨b, off + i * 3 + 1, none⟩ = some (.string rs[i].note) ∧ w.cell? ⟨b, off + i * 3 + 2, none⟩ = some (.int .i64 rs[i].time)

theorem firstOf_step (rs : List Rpt) (n k : Nat) (hk : k < n) (hn : n ≤ rs.length) (h0 : (rs[k]'(by omega)).cause = 0) :
    firstOf ((rs.take n).drop k) = firstOf ((rs.take n).drop (k + 1)) := by
  rw [List.drop_eq_getElem_cons (by simp; omega)]
  simp [firstOf, List.getElem_take, h0]
theorem firstOf_hit (rs : List Rpt) (n k : Nat) (hk : k < n) (hn : n ≤ rs.length) (h0 : ¬ (rs[k]'(by omega)).cause = 0) :
    firstOf ((rs.take n).drop k) = rs[k]'(by omega) := by
  rw [List.drop_eq_getElem_cons (by simp; omega)]
  simp [firstOf, List.getElem_take, h0]
theorem firstOf_end (rs : List Rpt) (n k : Nat) (hk : n ≤ k) :
    firstOf ((rs.take n).drop k) = zeroR := by
  rw [List.drop_eq_nil_of_le (by simp; omega)]
  rfl

set_option maxHeartbeats 400000 in
theorem first_any (A : Option Addr) (n c : Nat) (rs : List Rpt) (w : World) (B : Nat) (hB : B ≤ w.heap.size) (hr : RdR w B A rs) (hn : n ≤ rs.length) (hs : n ≤ 60) :
    Calls Try.prog 6 #[.slice A n c] w fun e w' => e = .returned (rptV (firstOf (rs.take n))) ∧ Below w.heap.size w w' := by
  go_enter Try.func6, Try.ntmps6
  go_wp2
  go_loop [3] (fun i => ∃ k : Nat, k ≤ n ∧ i = .int .i64 k ∧ Hid (firstOf (rs.take n) = firstOf ((rs.take n).drop k))) (fun i => n - (intOf i).toNat)
  case atStart => exact ⟨0, by omega, rfl, rfl⟩
  case round =>
    obtain ⟨k, hk, rfl, hf⟩ := hrel
    by_cases hlt : k < n
    · obtain ⟨b, off, rfl, hb0, h0, h1, h2⟩ := hr k (by omega)
      have hb : b < w.heap.size := by omega
      have hz := firstOf_step rs n k hlt hn
      have hh := firstOf_hit rs n k hlt hn
      generalize (rs[k]'(by omega)) = r at *
      obtain ⟨c, nt, tm⟩ := r
      clear hr
      dsimp only at *
      by_cases hc : c = 0
      · have HZ := Lib.hid (hz hc)
        subst hc
        clear hz hh
        go_wp2
        go_round
        case rel => exact ⟨k + 1, by omega, by go_num, hf.out.trans HZ.out⟩
        case measure => simp [intOf]; omega
      · have HZ := Lib.hid (hh hc)
        clear hz hh
        have hcb : (c == 0) = false := by simpa using hc
        go_wp2
        refine bodyPost_ret (v := rptV ⟨c, nt, tm⟩) (by simp [results, Try.results6, go_sem, rptV]) rfl ⟨by rw [hf.out, HZ.out], ?_⟩
        exact ((((Below.refl _ _).alloc (Nat.le_refl _) _)))
    · have hx := firstOf_end rs n k (by omega)
      have HX := Lib.hid hx
      clear hx
      go_wp2
      refine bodyPost_ret (v := rptV zeroR) (by simp [results, Try.results6, go_sem, rptV, zeroR]) rfl ⟨by rw [hf.out, HX.out], ?_⟩
      exact ((((Below.refl _ _).alloc (Nat.le_refl _) _)))

def cntTo (rs : List Rpt) (k : Nat) : Nat := countOf (rs.take k)
theorem countOf_append (a b : List Rpt) : countOf (a ++ b) = countOf a + countOf b := by
  induction a with
  | nil => simp [countOf]
  | cons r l ih => simp only [List.cons_append, countOf, ih]; omega
theorem cntTo_succ (rs : List Rpt) (k : Nat) (h : k < rs.length) : cntTo rs (k + 1) = cntTo rs k + if (rs[k].cause == 0) then 0 else 1 := by
  unfold cntTo
  rw [List.take_succ_eq_append_getElem h, countOf_append]
  simp [countOf]
theorem cntTo_le (rs : List Rpt) (k : Nat) : cntTo rs k ≤ k := by
  have h : ∀ l : List Rpt, countOf l ≤ l.length := by
    intro l
    induction l with
    | nil => simp [countOf]
    | cons r l ih => simp only [countOf, List.length_cons]; split <;> omega
  have := h (rs.take k)
  simp only [List.length_take] at this
  unfold cntTo
  omega

set_option maxHeartbeats 400000 in
theorem count_any (A : Option Addr) (n c : Nat) (rs : List Rpt) (w : World) (B : Nat) (hB : B ≤ w.heap.size) (hr : RdR w B A rs) (hn : n ≤ rs.length) (hs : n ≤ 60) :
    Calls Try.prog 12 #[.slice A n c] w fun e w' => e = .returned (.int .i64 (cntTo rs n)) ∧ w' = w := by
  go_enter Try.func12, Try.ntmps12
  go_wp2
  go_loop [3, 4] (fun m i => ∃ k : Nat, k ≤ n ∧ i = .int .i64 k ∧ m = .int .i64 (cntTo rs k)) (fun _ i => n - (intOf i).toNat)
  case atStart => exact ⟨0, by omega, rfl, rfl⟩
  case round =>
    obtain ⟨k, hk, rfl, rfl⟩ := hrel
    have hle := cntTo_le rs k
    by_cases hlt : k < n
    · obtain ⟨b, off, rfl, hb0, h0, h1, h2⟩ := hr k (by omega)
      have hb : b < w.heap.size := by omega
      have hz := cntTo_succ rs k (by omega)
      generalize (rs[k]'(by omega)) = r at *
      obtain ⟨c, nt, tm⟩ := r
      clear hr
      dsimp only at *
      by_cases hc : c = 0
      · subst hc
        have HZ := Lib.hid (show cntTo rs (k + 1) = cntTo rs k by simpa using hz)
        clear hz
        go_wp2
        go_round
        case rel => exact ⟨k + 1, by omega, by go_num, by rw [HZ.out]⟩
        case measure => simp [intOf]; omega
      · have hcb : (c == 0) = false := by simpa using hc
        have HZ := Lib.hid (show cntTo rs (k + 1) = cntTo rs k + 1 by rw [hcb] at hz; simpa using hz)
        clear hz
        go_wp2
        go_round
        case rel => exact ⟨k + 1, by omega, by go_num, by rw [HZ.out]; go_num⟩
        case measure => simp [intOf]; omega
    · obtain rfl : k = n := by omega
      go_wp2
      go_ret
      exact ⟨rfl, rfl⟩
end Go.Proofs.Ythgpdejlnbmkfaa
