/-
  The contract of reedbedlaw04.awake: it returns true; no condition beyond those that each theorem states.
-/
import Derived.Test.YtkppgofiojddoaaJoin2
import Derived.Test.YtkppgofiojddoaaSpread2
import Derived.Lib.SlBytesConst
namespace Go.Proofs.Ytkppgofiojddoaa
open Go.RowKit Go.Rb

end Go.Proofs.Ytkppgofiojddoaa
namespace Go.Rb
open Go.RowKit
theorem Rd.lit_ (w : World) (t : TypeId) (cs : Array Value) (fr : Nat × Nat) (xs : List Value) (n : Nat) (h : cs.toList = xs) (hn : cs.size = n) : Rd (w.alloc (.cells cs t fr)) (w.heap.size + 1) 1 (some ⟨w.heap.size, 0, none⟩) n xs := by
  subst h hn
  refine ⟨by simp, fun _ => ⟨_, 0, rfl, by omega, fun j _ => ?_⟩⟩
  rw [World.cell?_alloc_mark, Nat.zero_add]
  simp
end Go.Rb
namespace Go.Proofs.Ytkppgofiojddoaa
open Go.RowKit Go.Rb
def awB : List UInt8 := [97, 98, 99, 100, 101, 102]
def awZ : List Int := [1, 2]
def awS : List (List UInt8) := [[97], [98, 99], [100], [101, 102]]
theorem aw1 : cutP awB awZ = awS := by decide
theorem aw2 : spreadP 7 3 = [2, 2, 3] := by decide

set_option maxHeartbeats 2000000 in
theorem awake_any (w : World) : Calls Try.prog 7 #[] w fun e w' => e = .returned (.bool true) ∧ Below w.heap.size w w' := by
  have k1 := Lib.run_convert_bytes_const (P := Try.prog) w 27 5 #[.int .u8 97, .int .u8 98, .int .u8 99, .int .u8 100, .int .u8 101, .int .u8 102] 6 6 Try.underlying27 Try.underlying5
  have hcut : Hid (∀ (X : World), X = (w.alloc (.cells #[.int .u8 97, .int .u8 98, .int .u8 99, .int .u8 100, .int .u8 101, .int .u8 102] 5 (6, 7))).alloc (.cells #[.int .i64 1, .int .i64 2] 3) → Calls Try.prog 11 #[.slice (some ⟨w.heap.size, 0, none⟩) 6 6, .slice (some ⟨w.heap.size + 1, 0, none⟩) 2 2] X (RetNewP X awS)) := by
    rintro X rfl
    have h1 := Rd.lit_ w 5 #[.int .u8 97, .int .u8 98, .int .u8 99, .int .u8 100, .int .u8 101, .int .u8 102] (6, 7) (awB.map bV) 6 rfl rfl
    have h2 := Rd.lit_ (w.alloc (.cells #[.int .u8 97, .int .u8 98, .int .u8 99, .int .u8 100, .int .u8 101, .int .u8 102] 5 (6, 7))) 3 #[.int .i64 1, .int .i64 2] (0, 0) (awZ.map iV) 2 rfl rfl
    have h1' := h1.below (w' := (w.alloc (.cells #[.int .u8 97, .int .u8 98, .int .u8 99, .int .u8 100, .int .u8 101, .int .u8 102] 5 (6, 7))).alloc (.cells #[.int .i64 1, .int .i64 2] 3)) ((Below.refl _ _).alloc (by simp) _)
    have := cut_any awB awZ _ _ 6 6 2 2 (w.heap.size + 2) _ (h1'.more (by omega)) (by simpa using h2) (by omega) (by omega) (by omega) (by simp)
    rwa [aw1] at this
  have hsame : Hid (∀ (X Y : World) (B0 : Nat) (v : Value) (vs : List Value), Own X 27 1 v awS.length vs → Pcs X B0 vs awS → Y = X.alloc (.cells #[.string ⟨#[97]⟩, .string ⟨#[98, 99]⟩, .string ⟨#[100]⟩, .string ⟨#[101, 102]⟩] 9) →
      Calls Try.prog 12 #[v, .slice (some ⟨X.heap.size, 0, none⟩) 4 4] Y fun e w' => e = .returned (.bool true) ∧ ∃ q, w' = Y.drewN q) := by
    rintro X Y B0 v vs h1 h2 rfl
    obtain ⟨A, c, rfl, _, _⟩ := h1.len_
    have := same_any A (some ⟨X.heap.size, 0, none⟩) awS.length 4 c 4 vs awS awS _ _ _ _ (h1.alloc (.cells #[.string ⟨#[97]⟩, .string ⟨#[98, 99]⟩, .string ⟨#[100]⟩, .string ⟨#[101, 102]⟩] 9)).rd (h2.below (below_al (Below.refl _ _) _) |> Pcs.pr) (Rd.lit_ X _ _ _ _ 4 rfl rfl) (by decide) (by omega)
    refine this.mono ?_
    rintro e w' ⟨rfl, hq⟩
    exact ⟨by simp, hq⟩
  have hspread : Hid (∀ (X : World), Calls Try.prog 8 #[.int .i64 7, .int .i64 3] X (RetNewI X [2, 2, 3])) := by
    intro X
    have := codeSpread_any 7 3 X (by omega)
    rwa [aw2] at this
  have hints : Hid (∀ (X Y : World) (v : Value), NewI Y X v [2, 2, 3] → Calls Try.prog 9 #[v, .slice (some ⟨X.heap.size, 0, none⟩) 3 3] (X.alloc (.cells #[.int .i64 2, .int .i64 2, .int .i64 3] 3)) fun e w' => e = .returned (.bool true) ∧ ∃ q, w' = (X.alloc (.cells #[.int .i64 2, .int .i64 2, .int .i64 3] 3)).drewN q) := by
    rintro X Y v ⟨h1, _, _⟩
    obtain ⟨A, c, rfl, hr, _⟩ := Own.rd' (h1.alloc (.cells #[.int .i64 2, .int .i64 2, .int .i64 3] 3))
    have := ints_any A (some ⟨X.heap.size, 0, none⟩) 3 3 c 3 [2, 2, 3] [2, 2, 3] _ _ _ hr (Rd.lit_ X _ _ _ _ 3 rfl rfl) (by decide) (by omega)
    refine this.mono ?_
    rintro e w' ⟨rfl, hq⟩
    exact ⟨by simp, hq⟩
  go_enter Try.func7, Try.ntmps7
  go_wp2_with (first
    | (go_at_call 11; refine (hcut.out _ rfl).mono ?_; rintro e1 w1 ⟨v1, rfl, vs, hown1, hpcs1, hbel1, hblk1⟩; obtain ⟨A1, c1, rfl, -, -⟩ := hown1.len_)
    | (go_at_call 12; refine (hsame.out _ _ _ _ _ hown1 hpcs1 rfl).mono ?_; rintro e2 w2 ⟨rfl, q2, rfl⟩)
    | (go_at_call 8; refine (hspread.out _).mono ?_; rintro e3 w3 ⟨v3, rfl, hnew3⟩)
    | (go_at_call 9; refine (hints.out _ _ _ hnew3).mono ?_; rintro e4 w4 ⟨rfl, q4, rfl⟩))
  go_ret
  refine ⟨rfl, ?_⟩
  have b1 := below_trans (below_al (below_al (Below.refl _ w) _) _) hbel1
  have b2 := below_drewN (below_al b1 (.cells #[.string ⟨#[97]⟩, .string ⟨#[98, 99]⟩, .string ⟨#[100]⟩, .string ⟨#[101, 102]⟩] 9)) q2
  have b3 := below_trans b2 hnew3.2.1
  exact below_drewN (below_al b3 _) q4
end Go.Proofs.Ytkppgofiojddoaa
