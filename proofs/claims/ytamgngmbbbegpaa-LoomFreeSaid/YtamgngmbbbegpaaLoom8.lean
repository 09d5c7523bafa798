/-
  The contract of the law's made: a loom and its state; no condition beyond those that each theorem states.
-/
import Derived.Test.YtamgngmbbbegpaaLoom7
namespace Go.Proofs.Ytamgngmbbbegpaa
open Go.RowKit Go.Rb
attribute [local irreducible] Go.wpQuiet

theorem made_init (w : World) (B : Nat) (J : Option Addr) (n cj : Nat) (js : List Jb) (hJ : Rd w B 3 J n (flat3 (jrow js) n)) (hl : js.length = n) (hc : n ≤ cj) (hB : B ≤ w.heap.size) (hn : n ≤ 1000) (tb : Nat → Nat) :
    LmA (((w.alloc (.cells (madeCells #[.int .i64 0] n) 3)).alloc (.cells #[.slice J n cj, .slice (some ⟨w.heap.size, 0, none⟩) n n] 35)).alloc (.cells #[.slice none 0 0, .slice none 0 0] 56))
      B (fun k => k = w.heap.size ∨ k = w.heap.size + 1) (fun k => k = w.heap.size + 1 + 1) (w.heap.size + 1 + 1) (w.heap.size + 1) J n cj (.slice (some ⟨w.heap.size, 0, none⟩) n n) (.slice none 0 0) (.slice none 0 0) tb 0 js (List.replicate n 0) [] := by
  have h0 := Own.lit w 3 1 n (madeCells #[.int .i64 0] n) (by rw [size_madeCells]; omega) (by simp only [maxLen]; omega)
  rw [toList_madeCells_one, show List.replicate n (Value.int .i64 0) = (List.replicate n (0 : Int)).map iV from by simp [iV]] at h0
  have b1 := Blk.new (w.alloc (.cells (madeCells #[.int .i64 0] n) 3)) 35 #[.slice J n cj, .slice (some ⟨w.heap.size, 0, none⟩) n n]
  have b2 := Blk.new ((w.alloc (.cells (madeCells #[.int .i64 0] n) 3)).alloc (.cells #[.slice J n cj, .slice (some ⟨w.heap.size, 0, none⟩) n n] 35)) 56 #[.slice none 0 0, .slice none 0 0]
  have e1 : (w.alloc (.cells (madeCells #[.int .i64 0] n) 3)).heap.size = w.heap.size + 1 := by simp
  have e2 : ((w.alloc (.cells (madeCells #[.int .i64 0] n) 3)).alloc (.cells #[.slice J n cj, .slice (some ⟨w.heap.size, 0, none⟩) n n] 35)).heap.size = w.heap.size + 1 + 1 := by simp
  rw [e1] at b1
  rw [e2] at b2
  have hb : Below w.heap.size w (((w.alloc (.cells (madeCells #[.int .i64 0] n) 3)).alloc (.cells #[.slice J n cj, .slice (some ⟨w.heap.size, 0, none⟩) n n] 35)).alloc (.cells #[.slice none 0 0, .slice none 0 0] 56)) := below_al (below_al (below_al (Below.refl _ w) _) _) _
  refine ⟨⟨b1.alloc _, hJ.below (hb.mono hB), hl, hc, (h0.alloc _).alloc _, by simp, .inr rfl, fun k hk => .inl ?_, fun k hk => ?_, fun k hk => ?_, ?_⟩, b2, Own.nil_ _ _ _, fun i hi => by omega, by omega, Own.nil_ _ _ _, rfl, by simp [Value.ownBlock], by simp [Value.ownBlock], fun i hi => by omega, fun k hk => ?_, fun k hk => by omega, fun k hk hs => by omega⟩
  · have : w.heap.size = k := by simpa [Value.ownBlock] using hk
    exact this.symm
  · rcases hk with rfl | rfl
    · simp; omega
    · simp
  · omega
  · simp; omega
  · subst hk; simp

theorem lNew_any (w : World) : Calls Try.prog 23 #[] w fun e w' => e = .returned (.pointer (some ⟨w.heap.size, 0, none⟩)) ∧ w' = w.alloc (.cells #[.slice none 0 0, .slice none 0 0] 56) := by
  go_enter Try.func23, Try.ntmps23
  go_wp2
  go_ret
  exact ⟨rfl, rfl⟩

set_option maxRecDepth 20000 in
set_option maxHeartbeats 4000000 in
theorem made_any (w : World) (B : Nat) (J : Option Addr) (n cj : Nat) (js : List Jb) (hJ : Rd w B 3 J n (flat3 (jrow js) n)) (hl : js.length = n) (hc : n ≤ cj) (hB : B ≤ w.heap.size) (hn : n ≤ 1000) :
    Calls Try.prog 9 #[.slice J n cj] w fun e w' => ∃ lp sp S L tv lv tnv tb, e = .returned (.tuple #[pp lp, pp sp]) ∧ LmA w' B S L lp sp J n cj tv lv tnv tb n js (List.replicate n 0) [] ∧ (∀ k, S k → w.heap.size ≤ k) ∧ (∀ k, L k → w.heap.size ≤ k) ∧ Below w.heap.size w w' := by
  obtain ⟨i0, hi0, hz0, hz1, hz2⟩ := info_parts info3
  have km : ∀ W : World, (Instr.makeSlice 23 (.int .i64 (n : Int)) (.int .i64 (n : Int))).run Try.prog W = .ok (.slice (some ⟨W.heap.size, 0, none⟩) n n) (W.alloc (.cells (madeCells #[.int .i64 0] n) 3)) := by
    intro W
    have := run_make (P := Try.prog) W 23 3 i0 _ Try.underlying23 hi0 hz0 .i64 .i64 n n (by omega) (by omega) (by rw [hz2]; omega) (by omega)
    rw [hz1] at this
    simp only [Int.toNat_natCast, Nat.mul_one] at this
    exact this
  have HI := Lib.hid (made_init w B J n cj js hJ hl hc hB hn (fun _ => 0))
  have HB0 : Hid (Below w.heap.size w (((w.alloc (.cells (madeCells #[.int .i64 0] n) 3)).alloc (.cells #[.slice J n cj, .slice (some ⟨w.heap.size, 0, none⟩) n n] 35)).alloc (.cells #[.slice none 0 0, .slice none 0 0] 56))) := below_al (below_al (below_al (Below.refl _ w) _) _) _
  clear hJ hl hc hB
  go_enter Try.func9, Try.ntmps9
  go_wp2_with (go_at_call 23; refine (lNew_any _).mono ?_; rintro e1 w1 ⟨rfl, rfl⟩)
  generalize (((w.alloc (.cells (madeCells #[.int .i64 0] n) 3)).alloc (.cells #[.slice J n cj, .slice (some ⟨w.heap.size, 0, none⟩) n n] 35)).alloc (.cells #[.slice none 0 0, .slice none 0 0] 56)) = W0 at *
  go_loopw [6] (fun iv wr => ∃ (i : Nat) (L : Nat → Prop) (lv : Value) (tb : Nat → Nat), i ≤ n ∧ iv = .int .i64 i ∧ LmA wr B (fun k => k = w.heap.size ∨ k = w.heap.size + 1) L (w.heap.size + 1 + 1) (w.heap.size + 1) J n cj (.slice (some ⟨w.heap.size, 0, none⟩) n n) lv (.slice none 0 0) tb i js (List.replicate n 0) [] ∧ Hid (∀ k, L k → w.heap.size ≤ k) ∧ Below w.heap.size w wr) (fun iv _ => n - (intOf iv).toNat)
  case atStart => exact ⟨0, _, _, _, by omega, rfl, HI.out, (fun k hk => by have hk : k = w.heap.size + 1 + 1 := hk; omega), HB0.out⟩
  case round =>
    obtain ⟨i, L, lv, tb, hi, rfl, hh, hL, hbw⟩ := hrel
    have HH := Lib.hid hh
    have HB := Lib.hid hbw
    have hsB := hh.sa.hB
    have hwB := hh.sa.sB w.heap.size (.inl rfl)
    clear hh hbw
    by_cases hlt : i < n
    · have i1 : (i : Int) < (n : Int) := by omega
      have hsz : w.heap.size + 1 < wr.heap.size := HH.out.sa.lt _ (.inr rfl)
      have HA := Lib.hid (lAdd_any (HH.out.below (below_al (Below.refl _ _) (.cells #[pp (w.heap.size + 1), nV i] 53))) hlt hn (Blk.new wr 53 #[pp (w.heap.size + 1), nV i]) (by omega) (by omega))
      have HB2 : Hid (Below w.heap.size w (wr.alloc (.cells #[pp (w.heap.size + 1), nV i] 53))) := HB.out.alloc HB.out.size _
      clear hsz
      unfold pp nV iF at HA
      unfold pp nV at HB2
      go_wp2_with (go_at_call 17; refine HA.out.mono ?_; rintro e2 w2 ⟨rfl, L', lv', h2, hL2, hO2⟩)
      go_roundw
      case rel =>
        refine ⟨i + 1, L', lv', _, by omega, by go_num, h2, fun k hk => ?_, ?_⟩
        · rcases hL2 k hk with h | rfl | h
          · exact hL.out k h
          · exact HB.out.size
          · have := HB2.out.size
            exact Nat.le_trans this h
        · exact HB2.out.trans (hO2.below (B := w.heap.size) HB2.out.size hL.out)
      case measure => simp [intOf]; omega
    · obtain rfl : i = n := by omega
      go_wp2_with fail
      go_ret2
      exact ⟨_, _, _, L, _, lv, _, tb, rfl, HH.out, fun k hk => by omega, hL.out, HB.out⟩
end Go.Proofs.Ytamgngmbbbegpaa
