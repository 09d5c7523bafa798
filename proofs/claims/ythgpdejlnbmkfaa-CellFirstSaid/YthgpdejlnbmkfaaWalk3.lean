/-
  The walk of the law CellFirst: it returns true and writes nothing that was there; no condition but that the slice reads as reports.
-/
import Derived.Test.YthgpdejlnbmkfaaWalk2
import Derived.Deep.RegionWith
import Derived.Deep.QuietTactic
import Derived.BigQuiet
import Derived.IntWalk
import Derived.Deep.RegionHeld3
namespace Go.Proofs.Ythgpdejlnbmkfaa
open Go.RowKit

theorem RdR.below {w w' : World} {B : Nat} {A : Option Addr} {rs : List Rpt} (h : RdR w B A rs) (hb : Below B w w') : RdR w' B A rs := by
  intro i hi
  obtain ⟨b, off, rfl, hlt, h0, h1, h2⟩ := h i hi
  exact ⟨b, off, rfl, hlt, (hb.cell hlt).trans h0, (hb.cell hlt).trans h1, (hb.cell hlt).trans h2⟩


def stepR (f x : Rpt) : Rpt := if (x.cause == 0) then f else if (f.cause == 0) then x else f
def stepB (f x : Rpt) : Bool := f.cause == 0 && x.cause != 0
def stepN (n : Int) (x : Rpt) : Int := if (x.cause == 0) then n else n + 1

theorem report_any (b : Nat) (x r : Rpt) (n : Int) (w : World) (hb : cellIs w b r n) (hn0 : 0 ≤ n) (hn1 : n ≤ 1000) (v : Bool) (hv : stepB r x = v) :
    Calls Try.prog 7 #[.pointer (some ⟨b,0,none⟩), .int .i64 x.cause, .string x.note, .int .i64 x.time] w fun e w' => e = .returned (.bool v) ∧ cellIs w' b (stepR r x) (stepN n x) ∧ w.grownBy w' (some b) := by
  subst hv
  unfold stepB stepR stepN
  by_cases hx : x.cause = 0
  · rw [hx]
    refine (report_zero _ _ _ _).mono ?_
    rintro e w' ⟨rfl, rfl⟩
    exact ⟨by simp, by simpa using hb, World.grownBy.refl _ _⟩
  · have hx' : (x.cause == 0) = false := by simpa using hx
    by_cases hr : r.cause = 0
    · have hr' : (r.cause == 0) = true := by simpa using hr
      refine (report_first b x r n w hx' hr' hb hn0 hn1).mono ?_
      rintro e w' ⟨rfl, h1, h2⟩
      exact ⟨by simp [hr, hx], by simpa [hr, hx] using h1, h2⟩
    · have hr' : (r.cause == 0) = false := by simpa using hr
      refine (report_later b x r n w hx' hr' hb hn0 hn1).mono ?_
      rintro e w' ⟨rfl, h1, h2⟩
      exact ⟨by simp [hr], by simpa [hr, hx] using h1, h2⟩

theorem firstOf_zero (l : List Rpt) (h : (firstOf l).cause = 0) : firstOf l = zeroR := by
  induction l with
  | nil => rfl
  | cons r l ih =>
    simp only [firstOf] at h ⊢
    split
    · rename_i h1; rw [if_pos h1] at h; exact ih h
    · rename_i h1; rw [if_neg h1] at h; simp [h] at h1
theorem firstOf_snoc (l : List Rpt) (x : Rpt) : firstOf (l ++ [x]) = stepR (firstOf l) x := by
  induction l with
  | nil => simp [firstOf, stepR]; rfl
  | cons r l ih =>
    simp only [List.cons_append, firstOf]
    by_cases h : r.cause = 0
    · simp [h, ih]
    · simp [h, stepR]
theorem firstOf_succ (rs : List Rpt) (k : Nat) (h : k < rs.length) : firstOf (rs.take (k + 1)) = stepR (firstOf (rs.take k)) rs[k] := by
  rw [List.take_succ_eq_append_getElem h, firstOf_snoc]
theorem cnt_succ (rs : List Rpt) (k : Nat) (h : k < rs.length) : (cntTo rs (k + 1) : Int) = stepN (cntTo rs k) rs[k] := by
  rw [cntTo_succ rs k h]
  unfold stepN
  split <;> simp

theorem belowDrewN {B : Nat} {a w : World} (h : Below B a w) (n : Nat) : Below B a (w.drewN n) := ⟨h.os, h.tape, h.output, h.size, h.block⟩
theorem cellFar {w w' : World} {row : Option Nat} (hg : w.grownBy w' row) (a : Addr) (hlt : a.block < w.heap.size) (hne : some a.block ≠ row) : w'.cell? a = w.cell? a :=
  World.cell?_of_block (hg.block a.block hlt hne)

set_option maxRecDepth 100000 in
set_option maxHeartbeats 1000000 in
theorem law_any (A : Option Addr) (c : Nat) (rs : List Rpt) (w : World) (hr : RdR w w.heap.size A rs) (hs : rs.length ≤ 60) (hc : rs.length ≤ c) :
    Calls Try.prog 3 #[.slice A rs.length c] w fun e w' => e = .returned (.bool true) ∧ Below w.heap.size w w' := by
  go_enter Try.func3, Try.ntmps3
  go_wp2_with (first
    | (go_at_call 4; refine (awake_any _).mono ?_; rintro e w1 ⟨rfl, hb1⟩)
    | (go_at_call 5; refine (new_any _).mono ?_; rintro e w2 ⟨rfl, rfl⟩))
  have hsz : w.heap.size ≤ w1.heap.size := hb1.size
  go_loopw [4] (fun i wr => ∃ k : Nat, k ≤ rs.length ∧ i = .int .i64 k ∧ cellIs wr w1.heap.size (firstOf (rs.take k)) (cntTo rs k) ∧ Below w.heap.size w wr) (fun i _ => rs.length - (intOf i).toNat)
  case atStart =>
    refine ⟨0, by omega, rfl, ?_, ?_⟩
    · exact heap_alloc_new _ _
    · exact hb1.alloc hb1.size _
  case round =>
    obtain ⟨k, hk, rfl, hcell, hbw⟩ := hrel
    have hr1 := hr.below hbw
    by_cases hlt : k < rs.length
    · have hcl : w1.heap.size < wr.heap.size := hcell.lt
      have hcs := cntTo_le rs k
      have hcs' := cntTo_le rs (k + 1)
      obtain ⟨b, off, rfl, hb0, h0, h1, h2⟩ := hr1 k hlt
      have hb : b < wr.heap.size := by omega
      have hbc : ¬ b = w1.heap.size := by omega
      have E1 := firstOf_succ rs k hlt
      have E2 := cnt_succ rs k hlt
      generalize hf : firstOf (rs.take k) = f at *
      generalize hf' : firstOf (rs.take (k + 1)) = f' at *
      generalize hn : cntTo rs k = n at *
      generalize hn' : cntTo rs (k + 1) = n' at *
      generalize hx : rs[k] = x at *
      have HF := Lib.hid hf; have HF' := Lib.hid hf'; have HN := Lib.hid hn; have HN' := Lib.hid hn'; have HX := Lib.hid hx
      clear hf hf' hn hn' hx
      have E1' := Lib.hid E1; have E2' := Lib.hid E2; clear E1 E2
      have HR := Lib.hid hr; have HR1 := Lib.hid hr1; have HC := Lib.hid hcell; have HB := Lib.hid hbw
      clear hr hr1 hcell hbw
      obtain ⟨fc, fn, ft⟩ := f
      obtain ⟨xc, xn, xt⟩ := x
      dsimp only at *
      go_wp2_with fail
      refine (first_any _ k c rs _ _ HB.out.size HR1.out (by omega) (by omega)).mono ?_
      rintro e w3 ⟨he, hb3⟩
      rw [HF.out] at he
      subst he
      simp only [rptV]
      have h0' := (hb3.cell (p := ⟨b, off + k * 3, none⟩) hb).trans h0
      have h1' := (hb3.cell (p := ⟨b, off + k * 3 + 1, none⟩) hb).trans h1
      have h2' := (hb3.cell (p := ⟨b, off + k * 3 + 2, none⟩) hb).trans h2
      have hsz3 := hb3.size
      have hb3' : b < w3.heap.size := by omega
      clear h0 h1 h2
      have hkn : (k : Int) < (rs.length : Int) := by omega
      have hk0 : (0 : Int) ≤ (k : Int) := by omega
      have hc9 : ∀ cs, cellIs (w3.drew.alloc (.cells cs 27)) w1.heap.size ⟨fc, fn, ft⟩ n := by
        have := HC.out.below hb3 hcl
        intro cs
        exact (Below.heap_alloc _ _ _ (by simp; omega)).trans this
      have HC9 := Lib.hid hc9
      clear hc9
      have hfc : (∃ v, Hid (stepB ⟨fc, fn, ft⟩ ⟨xc, xn, xt⟩ = v ∧ ((fc = 0 ∧ v = (xc != 0)) ∨ ((fc == 0) = false ∧ v = false)))) := by
        refine ⟨_, rfl, ?_⟩
        by_cases h : fc = 0
        · exact .inl ⟨h, by simp [stepB, h]⟩
        · exact .inr ⟨by simpa using h, by simp [stepB, h]⟩
      obtain ⟨v, hv⟩ := hfc
      have HV : Hid (stepB ⟨fc, fn, ft⟩ ⟨xc, xn, xt⟩ = v) := hv.out.1
      have hv2 := hv.out.2
      clear hv
      rcases hv2 with ⟨rfl, rfl⟩ | ⟨hfb, rfl⟩
      all_goals
        go_wp2_with fail
        go_region_held3 (fun w' => w'.cell? ⟨b, off + k * 3, none⟩ = some (.int .i64 xc) ∧ w'.cell? ⟨b, off + k * 3 + 1, none⟩ = some (.string xn) ∧ w'.cell? ⟨b, off + k * 3 + 2, none⟩ = some (.int .i64 xt))
          (((try dsimp only); (repeat' apply And.intro); all_goals (first | (go_simp; done) | (refine (cellFar hg4 _ (by simp; omega) (by simp; omega)).trans ?_; go_simp; done))))
          ((go_at_call 7; refine (report_any _ ⟨xc, xn, xt⟩ ⟨_, fn, ft⟩ n _ (HC9.out _) (by omega) (by omega) _ HV.out).mono ?_; rintro e w4 ⟨rfl, hc4, hg4⟩))
        have HC4 := Lib.hid hc4
        have HG4 := Lib.hid hg4
        clear hc4 hg4
        have hb4 : Below w.heap.size w w4 := by
          refine Below.grown (w := w3.drew.alloc _) ?_ HG4.out ?_ ?_
          · exact ((HB.out.trans (hb3.mono HB.out.size)).drew).alloc (by simp; omega) _
          · simp; omega
          · intro j hj
            have : w1.heap.size = j := by simpa using hj
            omega
        have hs4 : w.heap.size ≤ w4.heap.size := hb4.size
        go_wp2_with fail
        refine (first_any _ (k + 1) c rs _ _ hb4.size (HR.out.below hb4) (by omega) (by omega)).mono ?_
        rintro e w5 ⟨he, hb5⟩
        rw [HF'.out] at he
        subst he
        obtain ⟨gc, gn, gt⟩ := f'
        simp only [rptV]
        have hc5 : cellIs w5 w1.heap.size ⟨gc, gn, gt⟩ n' := by
          rw [E1'.out, E2'.out]
          exact HC4.out.below hb5 HC4.out.lt
        have hlt5 := hc5.lt
        have hb6 : Below w.heap.size w w5 := hb4.trans (hb5.mono hs4)
        have HC5 := Lib.hid hc5
        clear hc5
        have hl5 : ∀ cs q, cellIs ((w5.alloc (.cells cs 27)).drewN q) w1.heap.size ⟨gc, gn, gt⟩ n' := fun cs q =>
          (Below.heap_alloc _ _ _ hlt5).trans HC5.out
        have HL5 := Lib.hid hl5
        clear hl5
        have hr5 : ∀ cs q, RdR ((w5.alloc (.cells cs 27)).drewN q) w.heap.size (some ⟨b, off, none⟩) rs := fun cs q =>
          (HR.out.below (belowDrewN (hb6.alloc hb6.size (.cells cs 27)) q))
        have HR5 := Lib.hid hr5
        clear hr5
        have hct : ∀ cs q, Calls Try.prog 12 #[.slice (some ⟨b, off, none⟩) (k + 1) c] ((w5.alloc (.cells cs 27)).drewN q) fun e w' => e = .returned (.int .i64 n') ∧ w' = ((w5.alloc (.cells cs 27)).drewN q) := fun cs q => by
          rw [← HN'.out]
          exact count_any _ (k + 1) c rs _ w.heap.size (hb6.alloc hb6.size (.cells cs 27)).size (HR5.out _ _) (by omega) (by omega)
        have HCT := Lib.hid hct
        clear hct
        have hsk : IntKind.i64.wrap ((k : Int) + 1) = (k : Int) + 1 := IntWalk.i64_in _ (by omega)
        have hk1 : (k : Int) + 1 ≤ c := by omega
        go_wp2_with fail
        go_quiet (first
          | (go_at_call 8; exact Calls.quiet_of_same (cause_any _ _ _ _ (HL5.out _ _)))
          | (go_at_call 9; exact Calls.quiet_of_same (note_any _ _ _ _ (HL5.out _ _)))
          | (go_at_call 10; exact Calls.quiet_of_same (when_any _ _ _ _ (HL5.out _ _)))
          | (go_at_call 11; exact Calls.quiet_of_same (reports_any _ _ _ _ (HL5.out _ _)))
          | (go_at_call 12; exact Calls.quiet_of_same (HCT.out _ _)))
        go_wp2
        go_roundw
        case rel =>
          refine ⟨k + 1, by omega, by go_num, ?_, ?_⟩
          · rw [HF'.out, HN'.out]
            exact HL5.out _ _
          · exact belowDrewN (hb6.alloc hb6.size _) _
        case measure => simp [intOf]; omega
    · go_wp2_with fail
      go_ret
      exact ⟨rfl, hbw⟩

set_option maxHeartbeats 400000 in
theorem law_long (A : Option Addr) (n c : Nat) (w : World) (hs : (60 : Int) < n) :
    Calls Try.prog 3 #[.slice A n c] w fun e w' => e = .returned (.bool true) ∧ Below w.heap.size w w' := by
  go_enter Try.func3, Try.ntmps3
  go_wp2_with fail
  refine (awake_any _).mono ?_
  rintro e wa ⟨rfl, hba⟩
  go_wp2_with fail
  refine (awake_any _).mono ?_
  rintro e wb ⟨rfl, hbb⟩
  go_wp2_with fail
  go_ret
  exact ⟨rfl, hba.trans (hbb.mono hba.size)⟩

theorem law_all (A : Option Addr) (c : Nat) (rs : List Rpt) (w : World) (hr : RdR w w.heap.size A rs) (hc : rs.length ≤ c) :
    Calls Try.prog 3 #[.slice A rs.length c] w fun e w' => e = .returned (.bool true) ∧ Below w.heap.size w w' := by
  by_cases h : rs.length ≤ 60
  · exact law_any A c rs w hr h hc
  · exact law_long A _ c w (by omega)
end Go.Proofs.Ythgpdejlnbmkfaa
