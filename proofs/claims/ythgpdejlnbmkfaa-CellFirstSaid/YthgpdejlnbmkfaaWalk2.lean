/-
  Contracts of the methods of cell.Cell and of the example awake; no condition beyond those that each theorem states.
-/
import Derived.Test.YthgpdejlnbmkfaaWalk1
namespace Go.Proofs.Ythgpdejlnbmkfaa
open Go.RowKit

def Blk (w : World) (g : Nat) (t : TypeId) (cs : Array Value) : Prop := w.heap[g]? = some (.cells cs t (0, 0))
theorem Blk.lt {w : World} {g : Nat} {t : TypeId} {cs : Array Value} (h : Blk w g t cs) : g < w.heap.size := by
  rcases Nat.lt_or_ge g w.heap.size with hlt | hge
  · exact hlt
  · unfold Blk at h; rw [Array.getElem?_eq_none hge] at h; cases h
theorem Blk.cell {w : World} {g : Nat} {t : TypeId} {cs : Array Value} (h : Blk w g t cs) (i : Nat) : w.cell? ⟨g, i, none⟩ = cs[i]? := cell_of_row w g i cs t (0, 0) h
theorem Blk.frozen {w : World} {g : Nat} {t : TypeId} {cs : Array Value} (h : Blk w g t cs) (i : Nat) : w.frozen? ⟨g, i, none⟩ = false := by
  unfold Blk at h
  simp [World.frozen?, h]
theorem Blk.set_ {w : World} {g : Nat} {t : TypeId} {cs : Array Value} (h : Blk w g t cs) (i : Nat) (u : Value) : Blk (w.setCell ⟨g, i, none⟩ u) g t (cs.setIfInBounds i u) := by
  unfold Blk at h ⊢
  simp [World.setCell, Array.getElem?_modify, h]
theorem Blk.below {w w' : World} {g : Nat} {t : TypeId} {cs : Array Value} {B : Nat} (h : Blk w g t cs) (hb : Below B w w') (hg : g < B) : Blk w' g t cs := (hb.block g hg).trans h

def cellIs (w : World) (b : Nat) (r : Rpt) (n : Int) : Prop := Blk w b 39 #[.int .i64 r.cause, .string r.note, .int .i64 r.time, .int .i64 n]

/-- Only block b may have changed. -/
theorem only_set {a w : World} {g : Nat} (h : a.grownBy w (some g)) (i : Nat) (u : Value) : a.grownBy (w.setCell ⟨g, i, none⟩ u) (some g) :=
  ⟨h.os, h.tape, h.output, by simpa [World.setCell] using h.size, fun k hk hne => (Below.heap_setCell w ⟨g, i, none⟩ u k (by
    rintro rfl
    exact hne rfl)).trans (h.block k hk hne)⟩

theorem new_any (w : World) : Calls Try.prog 5 #[] w fun e w' => e = .returned (.pointer (some ⟨w.heap.size, 0, none⟩)) ∧ w' = w.alloc (.cells #[.int .i64 0, .string ⟨#[]⟩, .int .i64 0, .int .i64 0] 39) := by
  go_enter Try.func5, Try.ntmps5
  go_wp2
  go_ret
  exact ⟨rfl, rfl⟩

set_option maxHeartbeats 400000 in
theorem report_zero (b : Nat) (note : ByteArray) (t : Int) (w : World) :
    Calls Try.prog 7 #[.pointer (some ⟨b,0,none⟩), .int .i64 0, .string note, .int .i64 t] w fun e w' => e = .returned (.bool false) ∧ w = w' := by
  go_enter Try.func7, Try.ntmps7
  go_wp2
  go_ret
  exact ⟨rfl, rfl⟩

set_option maxHeartbeats 400000 in
theorem report_first (b : Nat) (x r : Rpt) (n : Int) (w : World) (hx : (x.cause == 0) = false) (hr : (r.cause == 0) = true) (hb : cellIs w b r n) (hn0 : 0 ≤ n) (hn1 : n ≤ 1000) :
    Calls Try.prog 7 #[.pointer (some ⟨b,0,none⟩), .int .i64 x.cause, .string x.note, .int .i64 x.time] w fun e w' => e = .returned (.bool true) ∧ cellIs w' b x (n + 1) ∧ w.grownBy w' (some b) := by
  obtain ⟨c, nt, t⟩ := x
  obtain ⟨rc, rnt, rt⟩ := r
  dsimp only at *
  obtain rfl : rc = 0 := by simpa using hr
  clear hr
  have h0 := hb.cell 0; have h1 := hb.cell 1; have h2 := hb.cell 2; have h3 := hb.cell 3
  have f0 := hb.frozen 0; have f1 := hb.frozen 1; have f2 := hb.frozen 2; have f3 := hb.frozen 3
  simp at h0 h1 h2 h3
  have HB := Lib.hid hb
  clear hb
  go_enter Try.func7, Try.ntmps7
  go_wp2
  go_ret
  refine ⟨rfl, ?_, ?_⟩
  · exact (((HB.out.set_ 3 _).set_ 0 _).set_ 1 _).set_ 2 _
  · exact only_set (only_set (only_set (only_set (World.grownBy.refl w _) _ _) _ _) _ _) _ _

set_option maxHeartbeats 400000 in
theorem report_later (b : Nat) (x r : Rpt) (n : Int) (w : World) (hx : (x.cause == 0) = false) (hr : (r.cause == 0) = false) (hb : cellIs w b r n) (hn0 : 0 ≤ n) (hn1 : n ≤ 1000) :
    Calls Try.prog 7 #[.pointer (some ⟨b,0,none⟩), .int .i64 x.cause, .string x.note, .int .i64 x.time] w fun e w' => e = .returned (.bool false) ∧ cellIs w' b r (n + 1) ∧ w.grownBy w' (some b) := by
  obtain ⟨c, nt, t⟩ := x
  obtain ⟨rc, rnt, rt⟩ := r
  dsimp only at *
  have hr' : (rc != 0) = true := by simpa using hr
  have h0 := hb.cell 0; have h1 := hb.cell 1; have h2 := hb.cell 2; have h3 := hb.cell 3
  have f0 := hb.frozen 0; have f1 := hb.frozen 1; have f2 := hb.frozen 2; have f3 := hb.frozen 3
  simp at h0 h1 h2 h3
  have HB := Lib.hid hb
  clear hb
  go_enter Try.func7, Try.ntmps7
  go_wp2
  go_ret
  refine ⟨rfl, ?_, ?_⟩
  · exact HB.out.set_ 3 _
  · exact only_set (World.grownBy.refl w _) _ _

theorem cause_any (b : Nat) (r : Rpt) (n : Int) (w : World) (hb : cellIs w b r n) : Calls Try.prog 8 #[.pointer (some ⟨b,0,none⟩)] w fun e w' => e = .returned (.int .i64 r.cause) ∧ w' = w := by
  have h0 := hb.cell 0
  simp at h0
  clear hb
  go_enter Try.func8, Try.ntmps8
  go_wp2
  go_ret
  exact ⟨rfl, rfl⟩
theorem note_any (b : Nat) (r : Rpt) (n : Int) (w : World) (hb : cellIs w b r n) : Calls Try.prog 9 #[.pointer (some ⟨b,0,none⟩)] w fun e w' => e = .returned (.string r.note) ∧ w' = w := by
  have h0 := hb.cell 1
  simp at h0
  clear hb
  go_enter Try.func9, Try.ntmps9
  go_wp2
  go_ret
  exact ⟨rfl, rfl⟩
theorem when_any (b : Nat) (r : Rpt) (n : Int) (w : World) (hb : cellIs w b r n) : Calls Try.prog 10 #[.pointer (some ⟨b,0,none⟩)] w fun e w' => e = .returned (.int .i64 r.time) ∧ w' = w := by
  have h0 := hb.cell 2
  simp at h0
  clear hb
  go_enter Try.func10, Try.ntmps10
  go_wp2
  go_ret
  exact ⟨rfl, rfl⟩
theorem reports_any (b : Nat) (r : Rpt) (n : Int) (w : World) (hb : cellIs w b r n) : Calls Try.prog 11 #[.pointer (some ⟨b,0,none⟩)] w fun e w' => e = .returned (.int .i64 n) ∧ w' = w := by
  have h0 := hb.cell 3
  simp at h0
  clear hb
  go_enter Try.func11, Try.ntmps11
  go_wp2
  go_ret
  exact ⟨rfl, rfl⟩

set_option maxHeartbeats 400000 in
theorem awake_any (w : World) : Calls Try.prog 4 #[] w fun e w' => e = .returned (.bool true) ∧ Below w.heap.size w w' := by
  go_enter Try.func4, Try.ntmps4
  go_wp2
  go_ret
  refine ⟨rfl, ?_⟩
  repeat (first | exact Below.refl _ _ | refine Below.setCell ?_ (Nat.le_refl _) _ | refine Below.alloc ?_ (Nat.le_refl _) _)
end Go.Proofs.Ythgpdejlnbmkfaa
