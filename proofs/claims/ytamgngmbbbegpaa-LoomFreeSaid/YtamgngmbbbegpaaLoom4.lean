/-
  The law's tasks: their contracts; no condition beyond those that each theorem states.
-/
import Derived.Test.YtamgngmbbbegpaaLoom3
namespace Go.Proofs.Ytamgngmbbbegpaa
open Go.RowKit Go.Rb
attribute [local irreducible] Go.wpQuiet

section
variable {w w' : World} {B : Nat} {S T : Nat → Prop} {sp tb : Nat} {J : Option Addr} {n cj : Nat} {tv : Value} {js : List Jb} {tk : List Int}
theorem box0 {i : Nat} (h : Blk w tb 53 #[pp sp, nV i]) : w.cell? ⟨tb, 0, none⟩ = some (.pointer (some ⟨sp, 0, none⟩)) ∧ w.cell? ⟨tb, 1, none⟩ = some (.int .i64 (i : Int)) := ⟨by rw [h.cell]; rfl, by rw [h.cell]; rfl⟩

set_option maxHeartbeats 1000000 in
theorem tOver_any (h : StA w B S sp J n cj tv js tk) (i : Nat) (hi : i < n) (hb : Blk w tb 53 #[pp sp, nV i]) :
    Calls Try.prog 45 #[pp tb] w fun e w' => e = .returned (.bool (decide (overP js tk i))) ∧ ∃ q, w' = w.drewN q := by
  obtain ⟨c0, c1⟩ := box0 hb
  have HO : Hid (∀ m, Calls Try.prog 20 #[.pointer (some ⟨sp, 0, none⟩), .int .i64 (i : Int)] (w.drewN m) fun e w' => e = .returned (.bool (decide (overP js tk i))) ∧ ∃ q, w' = (w.drewN m).drewN q) := fun m => over_any (h.drewN m) i hi
  generalize decide (overP js tk i) = o at *
  clear h hb
  unfold pp
  go_enter Try.func45, Try.ntmps45
  go_wp2_with fail
  go_quiet ((go_at_call 20; exact quiet_more (HO.out _)))
  go_wp2_with fail
  go_ret
  exact ⟨rfl, _, rfl⟩

set_option maxHeartbeats 1000000 in
theorem tReady_any (h : StA w B S sp J n cj tv js tk) (hm : Sm js tk) (i : Nat) (hi : i < n) (hb : Blk w tb 53 #[pp sp, nV i]) :
    Calls Try.prog 46 #[pp tb] w fun e w' => e = .returned (.bool (decide (readyP js tk i))) ∧ Below w.heap.size w w' := by
  have HO : Hid (∀ W, Below w.drew.heap.size w.drew W → Calls Try.prog 25 #[.pointer (some ⟨sp, 0, none⟩), .int .i64 (i : Int)] W fun e w' => e = .returned (.bool (decide (readyP js tk i))) ∧ Below W.heap.size W w') := fun W hW => ready_any (h.below ((Below.refl _ _).drew.trans hW)) hm i hi
  have HC : Hid (∀ W, Below w.drew.heap.size w.drew W → W.cell? ⟨tb, 0, none⟩ = some (.pointer (some ⟨sp, 0, none⟩))) := fun W hW => (box0 (hb.below ((Below.refl _ _).drew.trans hW) hb.lt)).1
  have HD : Hid (∀ W, Below w.drew.heap.size w.drew W → W.cell? ⟨tb, 1, none⟩ = some (.int .i64 (i : Int))) := fun W hW => (box0 (hb.below ((Below.refl _ _).drew.trans hW) hb.lt)).2
  generalize decide (readyP js tk i) = o at *
  clear h hb
  unfold pp
  go_enter Try.func46, Try.ntmps46
  go_wp2_with fail
  refine region_rows (by kernel_rfl) (fun W W' => Below W.heap.size W W')
    [.val (.pointer (some ⟨tb, 0, none⟩)),
     .val (.pointer (some ⟨tb, 0, none⟩)),
     .val (.pointer (some ⟨tb, 0, none⟩)),
     .val (.pointer (some ⟨sp, 0, none⟩)),
     .val (.pointer (some ⟨tb, 0, none⟩)),
     .val (.pointer (some ⟨tb, 0, none⟩)),
     .val (.pointer (some ⟨tb, 1, none⟩)),
     .val (.int .i64 (i : Int)),
     .val (.bool o),
     .val (.bool o)]
    (fun W => Below.refl _ W) (fun _ _ _ h k => below_trans h k) (by kernel_rfl) ?_ ?_
  · refine ⟨?_, ?_, ?_, ?_, ?_, ?_, ?_, ?_, ?_, ?_, trivial⟩
    · intro ra RW hR hk hd K hK
      have y0 := HC.out RW hR
      have y1 := HD.out RW hR
      obtain ⟨e0, g0⟩ := hk 0 (.pointer (some ⟨tb, 0, none⟩)) (by kernel_rfl) rfl
      clear hk hd
      have HR := Lib.hid hR
      clear hR
      go_simp
      exact hK _ _ (Below.refl _ _) rfl
    · intro ra RW hR hk hd K hK
      have y0 := HC.out RW hR
      have y1 := HD.out RW hR
      obtain ⟨v3, e3, g3, f3⟩ := hd 0 3 (by kernel_rfl) rfl
      have f3 : v3 = .pointer (some ⟨tb, 0, none⟩) := f3
      subst f3
      clear hk hd
      have HR := Lib.hid hR
      clear hR
      go_simp
      exact hK _ _ (Below.refl _ _) rfl
    · intro ra RW hR hk hd K hK
      have y0 := HC.out RW hR
      have y1 := HD.out RW hR
      obtain ⟨v4, e4, g4, f4⟩ := hd 1 4 (by kernel_rfl) rfl
      have f4 : v4 = .pointer (some ⟨tb, 0, none⟩) := f4
      subst f4
      clear hk hd
      have HR := Lib.hid hR
      clear hR
      go_simp
      exact hK _ _ (Below.refl _ _) rfl
    · intro ra RW hR hk hd K hK
      have y0 := HC.out RW hR
      have y1 := HD.out RW hR
      obtain ⟨v5, e5, g5, f5⟩ := hd 2 5 (by kernel_rfl) rfl
      have f5 : v5 = .pointer (some ⟨tb, 0, none⟩) := f5
      subst f5
      clear hk hd
      have HR := Lib.hid hR
      clear hR
      go_simp
      exact hK _ _ (Below.refl _ _) rfl
    · intro ra RW hR hk hd K hK
      have y0 := HC.out RW hR
      have y1 := HD.out RW hR
      obtain ⟨e0, g0⟩ := hk 0 (.pointer (some ⟨tb, 0, none⟩)) (by kernel_rfl) rfl
      clear hk hd
      have HR := Lib.hid hR
      clear hR
      go_simp
      exact hK _ _ (Below.refl _ _) rfl
    · intro ra RW hR hk hd K hK
      have y0 := HC.out RW hR
      have y1 := HD.out RW hR
      obtain ⟨v7, e7, g7, f7⟩ := hd 4 7 (by kernel_rfl) rfl
      have f7 : v7 = .pointer (some ⟨tb, 0, none⟩) := f7
      subst f7
      clear hk hd
      have HR := Lib.hid hR
      clear hR
      go_simp
      exact hK _ _ (Below.refl _ _) rfl
    · intro ra RW hR hk hd K hK
      have y0 := HC.out RW hR
      have y1 := HD.out RW hR
      obtain ⟨v8, e8, g8, f8⟩ := hd 5 8 (by kernel_rfl) rfl
      have f8 : v8 = .pointer (some ⟨tb, 0, none⟩) := f8
      subst f8
      clear hk hd
      have HR := Lib.hid hR
      clear hR
      go_simp
      exact hK _ _ (Below.refl _ _) rfl
    · intro ra RW hR hk hd K hK
      have y0 := HC.out RW hR
      have y1 := HD.out RW hR
      obtain ⟨v9, e9, g9, f9⟩ := hd 6 9 (by kernel_rfl) rfl
      have f9 : v9 = .pointer (some ⟨tb, 1, none⟩) := f9
      subst f9
      clear hk hd
      have HR := Lib.hid hR
      clear hR
      go_simp
      exact hK _ _ (Below.refl _ _) rfl
    · intro ra RW hR hk hd K hK
      have y0 := HC.out RW hR
      have y1 := HD.out RW hR
      obtain ⟨v6, e6, g6, f6⟩ := hd 3 6 (by kernel_rfl) rfl
      have f6 : v6 = .pointer (some ⟨sp, 0, none⟩) := f6
      subst f6
      obtain ⟨v10, e10, g10, f10⟩ := hd 7 10 (by kernel_rfl) rfl
      have f10 : v10 = .int .i64 (i : Int) := f10
      subst f10
      clear hk hd
      have HR := Lib.hid hR
      clear hR
      go_simp
      refine (HO.out _ HR.out).mono ?_
      rintro e w2 ⟨rfl, hb2⟩
      exact hK _ _ hb2 rfl
    · intro ra RW hR hk hd K hK
      have y0 := HC.out RW hR
      have y1 := HD.out RW hR
      obtain ⟨v11, e11, g11, f11⟩ := hd 8 11 (by kernel_rfl) rfl
      have f11 : v11 = .bool o := f11
      subst f11
      clear hk hd
      have HR := Lib.hid hR
      clear hR
      go_simp
      exact hK _ _ (Below.refl _ _) rfl
  intro vs RW hR hF
  have q0 : vs 0 = .pointer (some ⟨tb, 0, none⟩) := hF 0 (by decide)
  have q1 : vs 1 = .pointer (some ⟨tb, 0, none⟩) := hF 1 (by decide)
  have q2 : vs 2 = .pointer (some ⟨tb, 0, none⟩) := hF 2 (by decide)
  have q3 : vs 3 = .pointer (some ⟨sp, 0, none⟩) := hF 3 (by decide)
  have q4 : vs 4 = .pointer (some ⟨tb, 0, none⟩) := hF 4 (by decide)
  have q5 : vs 5 = .pointer (some ⟨tb, 0, none⟩) := hF 5 (by decide)
  have q6 : vs 6 = .pointer (some ⟨tb, 1, none⟩) := hF 6 (by decide)
  have q7 : vs 7 = .int .i64 (i : Int) := hF 7 (by decide)
  have q8 : vs 8 = .bool o := hF 8 (by decide)
  have q9 : vs 9 = .bool o := hF 9 (by decide)
  simp only [setAll, List.setIfInBounds_toArray, List.set_cons_zero, List.set_cons_succ, q0, q1, q2, q3, q4, q5, q6, q7, q8, q9]
  clear hF q0 q1 q2 q3 q4 q5 q6 q7 q8 q9
  clear vs
  go_wp2_with fail
  go_ret
  exact ⟨rfl, (Below.refl _ _).drew.trans hR⟩

set_option maxHeartbeats 2000000 in
theorem tStep_any (h : StA w B S sp J n cj tv js tk) (hm : Sm js tk) (i : Nat) (hi : i < n) (hb : Blk w tb 53 #[pp sp, nV i]) (hS : ¬ S tb) :
    Calls Try.prog 47 #[pp tb] w fun e w' => e = .returned (.tuple #[]) ∧ StA w' B S sp J n cj tv js (inc tk i) ∧ Only S w w' := by
  obtain ⟨c0, c1⟩ := box0 hb
  have c2 := h.c1
  have HT := Lib.hid (hm i (by rw [h.jl]; exact hi))
  have HI : Hid (inc tk i = tk.set i (tk.getD i 0 + 1)) := rfl
  obtain ⟨g, off, cap, rfl, t0, hfr, hSg, -⟩ := h.tat hi
  have hgne : g ≠ tb := fun e => hS (e ▸ hSg)
  have hgne' : tb ≠ g := Ne.symm hgne
  have HPU := Lib.hid (h.put rfl hi (tk.getD i 0 + 1))
  obtain ⟨hz0, hz1⟩ := HT.out.2.2
  generalize inc tk i = tk' at *
  obtain ⟨z, hz⟩ : ∃ z, tk.getD i 0 = z := ⟨_, rfl⟩
  rw [hz] at hz0 hz1 HI HPU t0
  have hzz : (z + 1) ≤ 9223372036854775807 := by omega
  have hin : (i : Int) < (n : Int) := by omega
  clear hz h hb hm hS HT
  unfold pp
  go_enter Try.func47, Try.ntmps47
  go_wp2_with fail
  go_region
  go_wp2_with fail
  go_end0
  refine ⟨rfl, ?_, HPU.out.2.drew⟩
  rw [HI.out]; exact HPU.out.1.below (Below.refl _ _).drew
end
end Go.Proofs.Ytamgngmbbbegpaa
