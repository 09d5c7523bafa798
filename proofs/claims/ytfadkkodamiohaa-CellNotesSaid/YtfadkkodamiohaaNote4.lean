/-
  The text of a wrapped error; no condition beyond those that each theorem states.
-/
import Derived.Test.YtfadkkodamiohaaRegion
import Derived.Test.YtfadkkodamiohaaNote3
namespace Go.Proofs.Ytfadkkodamiohaa
open Go.RowKit Go.Rb
attribute [local irreducible] Go.wpQuiet

set_option maxHeartbeats 1000000 in
theorem wtext_any (G : Nat → Int) (a : Int) (h : a < 9223372036854775808) (note : ByteArray) (hn : note.size ≤ 200) (p : Nat) (w : World) (hT : Tab G w) (hp : Blk w p 42 #[.int .i64 a, .string note]) :
    Calls Try.prog 48 #[.pointer (some ⟨p, 0, none⟩)] w fun e w' => e = .returned (.string (eText G a ++ ⟨#[58, 32]⟩ ++ note)) ∧ Below w.heap.size w w' := by
  have HE := Lib.hid (fun W hW => error_any G a h W hW)
  have hs := eText_size G a h
  have HT := Lib.hid hT
  have HP := Lib.hid hp.lt
  have c0 := hp.cell 0
  have c1 := hp.cell 1
  simp only [List.getElem?_toArray, List.getElem?_cons_succ, List.getElem?_cons_zero] at c0 c1
  have C0 := Lib.hid c0
  have C1 := Lib.hid c1
  clear hp c0 c1 hT
  generalize eText G a = T at *
  have hs2 : (T ++ ⟨#[58, 32]⟩ : ByteArray).size ≤ 37 := by rw [ByteArray.size_append]; show T.size + 2 ≤ 37; omega
  have hs3 : (⟨#[58, 32]⟩ : ByteArray).size = 2 := rfl
  go_enter Try.func48, Try.ntmps48
  go_wp2_with fail
  refine region_rows (by kernel_rfl) (fun W W' => Below W.heap.size W W')
    [.val (.pointer (some ⟨p, 0, none⟩)),
     .val (.pointer (some ⟨p, 0, none⟩)),
     .val (.pointer (some ⟨p, 0, none⟩)),
     .val (.int .i64 a),
     .val (.string T),
     .val (.string (T ++ ⟨#[58, 32]⟩)),
     .val (.pointer (some ⟨p, 0, none⟩)),
     .val (.pointer (some ⟨p, 0, none⟩)),
     .val (.pointer (some ⟨p, 1, none⟩)),
     .val (.string note),
     .val (.string (T ++ ⟨#[58, 32]⟩ ++ note)),
     .val (.string (T ++ ⟨#[58, 32]⟩ ++ note))]
    (fun W => Below.refl _ W) (fun _ _ _ h k => below_trans h k) (by kernel_rfl) ?_ ?_
  · refine ⟨?_, ?_, ?_, ?_, ?_, ?_, ?_, ?_, ?_, ?_, ?_, ?_, trivial⟩
    · intro ra RW hR hk hd K hK
      have y0 := (hR.cell (p := ⟨p, 0, none⟩) HP.out).trans C0.out
      have y1 := (hR.cell (p := ⟨p, 1, none⟩) HP.out).trans C1.out
      obtain ⟨e0, g0⟩ := hk 0 (.pointer (some ⟨p, 0, none⟩)) (by kernel_rfl) rfl
      clear hk hd
      have HR := Lib.hid hR
      clear hR
      go_simp
      exact hK _ _ (Below.refl _ _) rfl
    · intro ra RW hR hk hd K hK
      have y0 := (hR.cell (p := ⟨p, 0, none⟩) HP.out).trans C0.out
      have y1 := (hR.cell (p := ⟨p, 1, none⟩) HP.out).trans C1.out
      obtain ⟨v3, e3, g3, f3⟩ := hd 0 3 (by kernel_rfl) rfl
      have f3 : v3 = .pointer (some ⟨p, 0, none⟩) := f3
      subst f3
      clear hk hd
      have HR := Lib.hid hR
      clear hR
      go_simp
      exact hK _ _ (Below.refl _ _) rfl
    · intro ra RW hR hk hd K hK
      have y0 := (hR.cell (p := ⟨p, 0, none⟩) HP.out).trans C0.out
      have y1 := (hR.cell (p := ⟨p, 1, none⟩) HP.out).trans C1.out
      obtain ⟨v4, e4, g4, f4⟩ := hd 1 4 (by kernel_rfl) rfl
      have f4 : v4 = .pointer (some ⟨p, 0, none⟩) := f4
      subst f4
      clear hk hd
      have HR := Lib.hid hR
      clear hR
      go_simp
      exact hK _ _ (Below.refl _ _) rfl
    · intro ra RW hR hk hd K hK
      have y0 := (hR.cell (p := ⟨p, 0, none⟩) HP.out).trans C0.out
      have y1 := (hR.cell (p := ⟨p, 1, none⟩) HP.out).trans C1.out
      obtain ⟨v5, e5, g5, f5⟩ := hd 2 5 (by kernel_rfl) rfl
      have f5 : v5 = .pointer (some ⟨p, 0, none⟩) := f5
      subst f5
      clear hk hd
      have HR := Lib.hid hR
      clear hR
      go_simp
      exact hK _ _ (Below.refl _ _) rfl
    · intro ra RW hR hk hd K hK
      have y0 := (hR.cell (p := ⟨p, 0, none⟩) HP.out).trans C0.out
      have y1 := (hR.cell (p := ⟨p, 1, none⟩) HP.out).trans C1.out
      obtain ⟨v6, e6, g6, f6⟩ := hd 3 6 (by kernel_rfl) rfl
      have f6 : v6 = .int .i64 a := f6
      subst f6
      clear hk hd
      have HR := Lib.hid hR
      clear hR
      go_simp
      refine (HE.out RW (Tab.below (w := w.drew) HT.out HR.out)).mono ?_
      rintro e w2 ⟨rfl, hb2⟩
      exact hK _ _ hb2 rfl
    · intro ra RW hR hk hd K hK
      have y0 := (hR.cell (p := ⟨p, 0, none⟩) HP.out).trans C0.out
      have y1 := (hR.cell (p := ⟨p, 1, none⟩) HP.out).trans C1.out
      obtain ⟨v7, e7, g7, f7⟩ := hd 4 7 (by kernel_rfl) rfl
      have f7 : v7 = .string T := f7
      subst f7
      clear hk hd
      have HR := Lib.hid hR
      clear hR
      go_simp
      rw [if_neg (by omega)]
      go_simp
      exact hK _ _ (Below.refl _ _) rfl
    · intro ra RW hR hk hd K hK
      have y0 := (hR.cell (p := ⟨p, 0, none⟩) HP.out).trans C0.out
      have y1 := (hR.cell (p := ⟨p, 1, none⟩) HP.out).trans C1.out
      obtain ⟨e0, g0⟩ := hk 0 (.pointer (some ⟨p, 0, none⟩)) (by kernel_rfl) rfl
      clear hk hd
      have HR := Lib.hid hR
      clear hR
      go_simp
      exact hK _ _ (Below.refl _ _) rfl
    · intro ra RW hR hk hd K hK
      have y0 := (hR.cell (p := ⟨p, 0, none⟩) HP.out).trans C0.out
      have y1 := (hR.cell (p := ⟨p, 1, none⟩) HP.out).trans C1.out
      obtain ⟨v9, e9, g9, f9⟩ := hd 6 9 (by kernel_rfl) rfl
      have f9 : v9 = .pointer (some ⟨p, 0, none⟩) := f9
      subst f9
      clear hk hd
      have HR := Lib.hid hR
      clear hR
      go_simp
      exact hK _ _ (Below.refl _ _) rfl
    · intro ra RW hR hk hd K hK
      have y0 := (hR.cell (p := ⟨p, 0, none⟩) HP.out).trans C0.out
      have y1 := (hR.cell (p := ⟨p, 1, none⟩) HP.out).trans C1.out
      obtain ⟨v10, e10, g10, f10⟩ := hd 7 10 (by kernel_rfl) rfl
      have f10 : v10 = .pointer (some ⟨p, 0, none⟩) := f10
      subst f10
      clear hk hd
      have HR := Lib.hid hR
      clear hR
      go_simp
      exact hK _ _ (Below.refl _ _) rfl
    · intro ra RW hR hk hd K hK
      have y0 := (hR.cell (p := ⟨p, 0, none⟩) HP.out).trans C0.out
      have y1 := (hR.cell (p := ⟨p, 1, none⟩) HP.out).trans C1.out
      obtain ⟨v11, e11, g11, f11⟩ := hd 8 11 (by kernel_rfl) rfl
      have f11 : v11 = .pointer (some ⟨p, 1, none⟩) := f11
      subst f11
      clear hk hd
      have HR := Lib.hid hR
      clear hR
      go_simp
      exact hK _ _ (Below.refl _ _) rfl
    · intro ra RW hR hk hd K hK
      have y0 := (hR.cell (p := ⟨p, 0, none⟩) HP.out).trans C0.out
      have y1 := (hR.cell (p := ⟨p, 1, none⟩) HP.out).trans C1.out
      obtain ⟨v8, e8, g8, f8⟩ := hd 5 8 (by kernel_rfl) rfl
      have f8 : v8 = .string (T ++ ⟨#[58, 32]⟩) := f8
      subst f8
      obtain ⟨v12, e12, g12, f12⟩ := hd 9 12 (by kernel_rfl) rfl
      have f12 : v12 = .string note := f12
      subst f12
      clear hk hd
      have HR := Lib.hid hR
      clear hR
      go_simp
      rw [if_neg (by omega)]
      go_simp
      exact hK _ _ (Below.refl _ _) rfl
    · intro ra RW hR hk hd K hK
      have y0 := (hR.cell (p := ⟨p, 0, none⟩) HP.out).trans C0.out
      have y1 := (hR.cell (p := ⟨p, 1, none⟩) HP.out).trans C1.out
      obtain ⟨v13, e13, g13, f13⟩ := hd 10 13 (by kernel_rfl) rfl
      have f13 : v13 = .string (T ++ ⟨#[58, 32]⟩ ++ note) := f13
      subst f13
      clear hk hd
      have HR := Lib.hid hR
      clear hR
      go_simp
      exact hK _ _ (Below.refl _ _) rfl
  intro vs RW hR hF
  have q0 : vs 0 = .pointer (some ⟨p, 0, none⟩) := hF 0 (by decide)
  have q1 : vs 1 = .pointer (some ⟨p, 0, none⟩) := hF 1 (by decide)
  have q2 : vs 2 = .pointer (some ⟨p, 0, none⟩) := hF 2 (by decide)
  have q3 : vs 3 = .int .i64 a := hF 3 (by decide)
  have q4 : vs 4 = .string T := hF 4 (by decide)
  have q5 : vs 5 = .string (T ++ ⟨#[58, 32]⟩) := hF 5 (by decide)
  have q6 : vs 6 = .pointer (some ⟨p, 0, none⟩) := hF 6 (by decide)
  have q7 : vs 7 = .pointer (some ⟨p, 0, none⟩) := hF 7 (by decide)
  have q8 : vs 8 = .pointer (some ⟨p, 1, none⟩) := hF 8 (by decide)
  have q9 : vs 9 = .string note := hF 9 (by decide)
  have q10 : vs 10 = .string (T ++ ⟨#[58, 32]⟩ ++ note) := hF 10 (by decide)
  have q11 : vs 11 = .string (T ++ ⟨#[58, 32]⟩ ++ note) := hF 11 (by decide)
  simp only [setAll, List.setIfInBounds_toArray, List.set_cons_zero, List.set_cons_succ, q0, q1, q2, q3, q4, q5, q6, q7, q8, q9, q10, q11]
  clear hF q0 q1 q2 q3 q4 q5 q6 q7 q8 q9 q10 q11
  clear vs
  go_wp2_with fail
  go_ret
  exact ⟨rfl, below_trans (Below.drew (Below.refl _ w)) hR⟩
end Go.Proofs.Ytfadkkodamiohaa
