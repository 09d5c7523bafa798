/-
  The law CodeGets of reedbedlaw01 returns true; no condition beyond those that each theorem states.
-/
import Derived.Test.YteigpmfhhmlgoaaPlain3
namespace Go.Proofs.Yteigpmfhhmlgoaa
open Go.RowKit Go.Rb

set_option maxRecDepth 20000 in
set_option maxHeartbeats 4000000 in
theorem gets_small (bs : List UInt8) (A : Option Addr) (n c : Nat) (w : World) (hr : Rd w w.heap.size 1 A n (bs.map bV)) (hn : n ≤ 100) (hc : n ≤ c) :
    Calls Try.prog 7 #[.slice A n c] w fun e w' => e = .returned (.bool true) ∧ Below w.heap.size w w' := by
  obtain ⟨i0, hi0, hz0, hz1, hz2⟩ := info_parts info5
  have hnl : bs.length = n := by simpa using hr.1
  obtain ⟨X, hX⟩ : ∃ X : ByteArray, (⟨bs.toArray⟩ : ByteArray) = X := ⟨_, rfl⟩
  have hXs : X.size = n := by rw [← hX]; show bs.toArray.size = n; rw [List.size_toArray, hnl]
  have hXl : X.data.toList = bs := by rw [← hX]
  obtain ⟨gx, gy, hg⟩ : ∃ gx gy, getP bs = (gx, gy) := ⟨_, _, rfl⟩
  obtain ⟨o, ho⟩ : ∃ o, decide (OpenC bs) = o := ⟨_, rfl⟩
  have ho2 : decide (ROpen X.data.toList) = o := by rw [hXl, ← ho]; exact decide_eq_decide.2 (open_iff bs).symm
  have hG2 : ∀ W, Calls Try.prog 22 #[.string X] W fun e w' => e = .returned (.tuple #[.int .i64 gx, .int .i64 gy]) ∧ Below W.heap.size W w' := fun W => by
    have := refGet_any X (by omega) W
    rw [refP_eq, hXl, hg] at this
    exact this
  have hO2' : ∀ W, Calls Try.prog 24 #[.string X] W fun e w' => e = .returned (.bool o) ∧ Below W.heap.size W w' := fun W => by
    have := refOpen_any X (by omega) W
    rw [ho2] at this
    exact this
  have HG := Lib.hid hg
  have HG2 := Lib.hid hG2
  have hO2 := Lib.hid hO2'
  have HX := Lib.hid hX
  have HO := Lib.hid ho
  have HA := Lib.hid hr
  have H63 := Lib.hid (show 0 + n ≤ maxLen by simp only [maxLen]; omega)
  clear hG2 hO2' hX ho ho2 hg hr hXs hXl hnl
  go_enter Try.func7, Try.ntmps7
  go_wp2_with fail
  refine (awake_any _).mono ?_
  rintro e w1 ⟨rfl, hb1⟩
  have HB1 := Lib.hid hb1
  clear hb1
  go_wp2_with (at_builtin; refine wpList_append_rd _ rfl (.tmp 16) (.tmp 17) _ rfl 5 i0 _ 1 1 Try.underlying24 hi0 hz0 hz1 hz2 rfl (by omega) (.slice (some ⟨w1.heap.size, 0, none⟩) 0 0) 0 [] rfl (by exact Own.lit w1 5 1 0 #[] rfl (by decide)) w.heap.size A n c (bs.map bV) rfl (by exact HA.out.below (below_al HB1.out _)) (by simp [bV, Value.oneCell']) H63.out (by omega) _ rfl ?_; intro v2 w2 hown2 hgrow2 hat2)
  have HB2 : Hid (Below w.heap.size w w2) := below_trans HB1.out (Below.grown (below_al (Below.refl _ w1) _) hgrow2 (by simp) (by simp [Value.ownBlock]))
  obtain ⟨A2, c2, rfl, hr2, hc2⟩ := Own.rd' (xs := bs.map bV) (n := n) (by simpa using hown2)
  have HR2 := Lib.hid hr2
  clear hown2 hgrow2 hat2 hr2
  have hgC := codeGet_any bs A2 n c2 _ w2 HR2.out hc2 (by omega)
  rw [HG.out] at hgC
  have HGC := Lib.hid hgC
  have hcv : (convert 24 9 (.slice A n c)).run Try.prog w2 = .ok (.string X) w2 := by rw [← HX.out]; exact conv_rd (HA.out.below HB2.out)
  clear hgC
  go_wp2_with (first
    | (go_at_call 21; refine HGC.out.mono ?_; rintro e w5 ⟨rfl, rfl⟩)
    | (go_at_call 22; refine (HG2.out _).mono ?_; rintro e w3 ⟨rfl, hb3⟩; have HB3 := Lib.hid hb3; clear hb3))
  have hO1 : Hid (∀ W, Below w3.drew.heap.size w3.drew W → Calls Try.prog 23 #[.slice A2 n c2] W fun e w' => e = .returned (.bool o) ∧ Below W.heap.size W w') := fun W hW' => by
    have hW : Below w3.heap.size w3 W := (Below.refl _ w3).drew.trans hW'
    have hb := HB3.out.trans (hW.mono HB3.out.size)
    have := codeOpen_any bs A2 n c2 _ W (HR2.out.below hb) hc2 (by omega) hb.size
    rw [HO.out] at this
    exact this
  have hCV : Hid (∀ W, Below w3.drew.heap.size w3.drew W → (convert 24 9 (.slice A n c)).run Try.prog W = .ok (.string X) W) := fun W hW' => by
    have hW : Below w3.heap.size w3 W := (Below.refl _ w3).drew.trans hW'
    rw [← HX.out]
    exact conv_rd (HA.out.below (below_trans (below_trans HB2.out HB3.out) hW))
  have hCI : Hid (∀ W, Below w3.drew.heap.size w3.drew W → (convert 24 9 (.slice A2 n c2)).run Try.prog W = .ok (.string X) W) := fun W hW' => by
    have hW : Below w3.heap.size w3 W := (Below.refl _ w3).drew.trans hW'
    rw [← HX.out]
    exact conv_rd (HR2.out.below (HB3.out.trans (hW.mono HB3.out.size)))
  have HB13 := Lib.hid (below_trans HB2.out HB3.out)
  clear hcv
  refine region_rows (by kernel_rfl) (fun W W' => Below W.heap.size W W')
    [.val (.int .i64 gx),
     .val (.int .i64 gx),
     .val (.bool true),
     .val (.bool true),
     .val (.int .i64 gy),
     .val (.int .i64 gy),
     .val (.bool true),
     .val (.bool true),
     .val (.bool true),
     .val (.slice A2 n c2),
     .val (.bool o),
     .val (.slice A n c),
     .val (.string X),
     .val (.bool o),
     .val (.bool true),
     .val (.bool true),
     .val (.bool true),
     .val (.slice A2 n c2),
     .val (.string X),
     .val (.slice A n c),
     .val (.string X),
     .val (.bool true),
     .val (.bool true),
     .val (.bool true)]
    (fun W => Below.refl _ W) (fun _ _ _ h k => below_trans h k) (by kernel_rfl) ?_ ?_
  · refine ⟨?_, ?_, ?_, ?_, ?_, ?_, ?_, ?_, ?_, ?_, ?_, ?_, ?_, ?_, ?_, ?_, ?_, ?_, ?_, ?_, ?_, ?_, ?_, ?_, trivial⟩
    · intro ra RW hR hk hd K hK
      obtain ⟨e4, g4⟩ := hk 4 (.int .i64 gx) (by kernel_rfl) rfl
      clear hk hd
      have HR := Lib.hid hR
      clear hR
      go_simp
      exact hK _ _ (Below.refl _ _) rfl
    · intro ra RW hR hk hd K hK
      obtain ⟨e6, g6⟩ := hk 6 (.int .i64 gx) (by kernel_rfl) rfl
      clear hk hd
      have HR := Lib.hid hR
      clear hR
      go_simp
      exact hK _ _ (Below.refl _ _) rfl
    · intro ra RW hR hk hd K hK
      obtain ⟨v30, e30, g30, f30⟩ := hd 0 30 (by kernel_rfl) rfl
      have f30 : v30 = .int .i64 gx := f30
      subst f30
      obtain ⟨v31, e31, g31, f31⟩ := hd 1 31 (by kernel_rfl) rfl
      have f31 : v31 = .int .i64 gx := f31
      subst f31
      clear hk hd
      have HR := Lib.hid hR
      clear hR
      go_simp
      exact hK _ _ (Below.refl _ _) rfl
    · intro ra RW hR hk hd K hK
      obtain ⟨v32, e32, g32, f32⟩ := hd 2 32 (by kernel_rfl) rfl
      have f32 : v32 = .bool true := f32
      subst f32
      clear hk hd
      have HR := Lib.hid hR
      clear hR
      go_simp
      exact hK _ _ (Below.refl _ _) rfl
    · intro ra RW hR hk hd K hK
      obtain ⟨e5, g5⟩ := hk 5 (.int .i64 gy) (by kernel_rfl) rfl
      obtain ⟨v33, e33, g33, f33⟩ := hd 3 33 (by kernel_rfl) rfl
      have f33 : v33 = .bool true := f33
      subst f33
      clear hk hd
      have HR := Lib.hid hR
      clear hR
      go_simp
      exact hK _ _ (Below.refl _ _) rfl
    · intro ra RW hR hk hd K hK
      obtain ⟨e7, g7⟩ := hk 7 (.int .i64 gy) (by kernel_rfl) rfl
      obtain ⟨v33, e33, g33, f33⟩ := hd 3 33 (by kernel_rfl) rfl
      have f33 : v33 = .bool true := f33
      subst f33
      clear hk hd
      have HR := Lib.hid hR
      clear hR
      go_simp
      exact hK _ _ (Below.refl _ _) rfl
    · intro ra RW hR hk hd K hK
      obtain ⟨v34, e34, g34, f34⟩ := hd 4 34 (by kernel_rfl) rfl
      have f34 : v34 = .int .i64 gy := f34
      subst f34
      obtain ⟨v35, e35, g35, f35⟩ := hd 5 35 (by kernel_rfl) rfl
      have f35 : v35 = .int .i64 gy := f35
      subst f35
      obtain ⟨v33, e33, g33, f33⟩ := hd 3 33 (by kernel_rfl) rfl
      have f33 : v33 = .bool true := f33
      subst f33
      clear hk hd
      have HR := Lib.hid hR
      clear hR
      go_simp
      exact hK _ _ (Below.refl _ _) rfl
    · intro ra RW hR hk hd K hK
      obtain ⟨v33, e33, g33, f33⟩ := hd 3 33 (by kernel_rfl) rfl
      have f33 : v33 = .bool true := f33
      subst f33
      obtain ⟨v36, e36, g36, f36⟩ := hd 6 36 (by kernel_rfl) rfl
      have f36 : v36 = .bool true := f36
      subst f36
      clear hk hd
      have HR := Lib.hid hR
      clear hR
      go_simp
      exact hK _ _ (Below.refl _ _) rfl
    · intro ra RW hR hk hd K hK
      obtain ⟨v37, e37, g37, f37⟩ := hd 7 37 (by kernel_rfl) rfl
      have f37 : v37 = .bool true := f37
      subst f37
      clear hk hd
      have HR := Lib.hid hR
      clear hR
      go_simp
      exact hK _ _ (Below.refl _ _) rfl
    · intro ra RW hR hk hd K hK
      obtain ⟨e3, g3⟩ := hk 3 (.slice A2 n c2) (by kernel_rfl) rfl
      obtain ⟨v38, e38, g38, f38⟩ := hd 8 38 (by kernel_rfl) rfl
      have f38 : v38 = .bool true := f38
      subst f38
      clear hk hd
      have HR := Lib.hid hR
      clear hR
      go_simp
      exact hK _ _ (Below.refl _ _) rfl
    · intro ra RW hR hk hd K hK
      obtain ⟨v39, e39, g39, f39⟩ := hd 9 39 (by kernel_rfl) rfl
      have f39 : v39 = .slice A2 n c2 := f39
      subst f39
      obtain ⟨v38, e38, g38, f38⟩ := hd 8 38 (by kernel_rfl) rfl
      have f38 : v38 = .bool true := f38
      subst f38
      clear hk hd
      have HR := Lib.hid hR
      clear hR
      go_simp
      refine (hO1.out _ HR.out).mono ?_
      rintro e w2 ⟨rfl, hb2⟩
      exact hK _ _ hb2 rfl
    · intro ra RW hR hk hd K hK
      obtain ⟨e0, g0⟩ := hk 0 (.slice A n c) (by kernel_rfl) rfl
      obtain ⟨v38, e38, g38, f38⟩ := hd 8 38 (by kernel_rfl) rfl
      have f38 : v38 = .bool true := f38
      subst f38
      clear hk hd
      have HR := Lib.hid hR
      clear hR
      go_simp
      exact hK _ _ (Below.refl _ _) rfl
    · intro ra RW hR hk hd K hK
      obtain ⟨v41, e41, g41, f41⟩ := hd 11 41 (by kernel_rfl) rfl
      have f41 : v41 = .slice A n c := f41
      subst f41
      obtain ⟨v38, e38, g38, f38⟩ := hd 8 38 (by kernel_rfl) rfl
      have f38 : v38 = .bool true := f38
      subst f38
      clear hk hd
      have HR := Lib.hid hR
      clear hR
      go_simp
      rw [hCV.out _ HR.out]
      go_simp
      exact hK _ _ (Below.refl _ _) rfl
    · intro ra RW hR hk hd K hK
      obtain ⟨v42, e42, g42, f42⟩ := hd 12 42 (by kernel_rfl) rfl
      have f42 : v42 = .string X := f42
      subst f42
      obtain ⟨v38, e38, g38, f38⟩ := hd 8 38 (by kernel_rfl) rfl
      have f38 : v38 = .bool true := f38
      subst f38
      clear hk hd
      have HR := Lib.hid hR
      clear hR
      go_simp
      refine (hO2.out _).mono ?_
      rintro e w2 ⟨rfl, hb2⟩
      exact hK _ _ hb2 rfl
    · intro ra RW hR hk hd K hK
      obtain ⟨v40, e40, g40, f40⟩ := hd 10 40 (by kernel_rfl) rfl
      have f40 : v40 = .bool o := f40
      subst f40
      obtain ⟨v43, e43, g43, f43⟩ := hd 13 43 (by kernel_rfl) rfl
      have f43 : v43 = .bool o := f43
      subst f43
      obtain ⟨v38, e38, g38, f38⟩ := hd 8 38 (by kernel_rfl) rfl
      have f38 : v38 = .bool true := f38
      subst f38
      clear hk hd
      have HR := Lib.hid hR
      clear hR
      go_simp
      exact hK _ _ (Below.refl _ _) rfl
    · intro ra RW hR hk hd K hK
      obtain ⟨v38, e38, g38, f38⟩ := hd 8 38 (by kernel_rfl) rfl
      have f38 : v38 = .bool true := f38
      subst f38
      obtain ⟨v44, e44, g44, f44⟩ := hd 14 44 (by kernel_rfl) rfl
      have f44 : v44 = .bool true := f44
      subst f44
      clear hk hd
      have HR := Lib.hid hR
      clear hR
      go_simp
      exact hK _ _ (Below.refl _ _) rfl
    · intro ra RW hR hk hd K hK
      obtain ⟨v45, e45, g45, f45⟩ := hd 15 45 (by kernel_rfl) rfl
      have f45 : v45 = .bool true := f45
      subst f45
      clear hk hd
      have HR := Lib.hid hR
      clear hR
      go_simp
      exact hK _ _ (Below.refl _ _) rfl
    · intro ra RW hR hk hd K hK
      obtain ⟨e3, g3⟩ := hk 3 (.slice A2 n c2) (by kernel_rfl) rfl
      obtain ⟨v46, e46, g46, f46⟩ := hd 16 46 (by kernel_rfl) rfl
      have f46 : v46 = .bool true := f46
      subst f46
      clear hk hd
      have HR := Lib.hid hR
      clear hR
      go_simp
      exact hK _ _ (Below.refl _ _) rfl
    · intro ra RW hR hk hd K hK
      obtain ⟨v47, e47, g47, f47⟩ := hd 17 47 (by kernel_rfl) rfl
      have f47 : v47 = .slice A2 n c2 := f47
      subst f47
      obtain ⟨v46, e46, g46, f46⟩ := hd 16 46 (by kernel_rfl) rfl
      have f46 : v46 = .bool true := f46
      subst f46
      clear hk hd
      have HR := Lib.hid hR
      clear hR
      go_simp
      rw [hCI.out _ HR.out]
      go_simp
      exact hK _ _ (Below.refl _ _) rfl
    · intro ra RW hR hk hd K hK
      obtain ⟨e0, g0⟩ := hk 0 (.slice A n c) (by kernel_rfl) rfl
      obtain ⟨v46, e46, g46, f46⟩ := hd 16 46 (by kernel_rfl) rfl
      have f46 : v46 = .bool true := f46
      subst f46
      clear hk hd
      have HR := Lib.hid hR
      clear hR
      go_simp
      exact hK _ _ (Below.refl _ _) rfl
    · intro ra RW hR hk hd K hK
      obtain ⟨v49, e49, g49, f49⟩ := hd 19 49 (by kernel_rfl) rfl
      have f49 : v49 = .slice A n c := f49
      subst f49
      obtain ⟨v46, e46, g46, f46⟩ := hd 16 46 (by kernel_rfl) rfl
      have f46 : v46 = .bool true := f46
      subst f46
      clear hk hd
      have HR := Lib.hid hR
      clear hR
      go_simp
      rw [hCV.out _ HR.out]
      go_simp
      exact hK _ _ (Below.refl _ _) rfl
    · intro ra RW hR hk hd K hK
      obtain ⟨v48, e48, g48, f48⟩ := hd 18 48 (by kernel_rfl) rfl
      have f48 : v48 = .string X := f48
      subst f48
      obtain ⟨v50, e50, g50, f50⟩ := hd 20 50 (by kernel_rfl) rfl
      have f50 : v50 = .string X := f50
      subst f50
      obtain ⟨v46, e46, g46, f46⟩ := hd 16 46 (by kernel_rfl) rfl
      have f46 : v46 = .bool true := f46
      subst f46
      clear hk hd
      have HR := Lib.hid hR
      clear hR
      go_simp
      exact hK _ _ (Below.refl _ _) rfl
    · intro ra RW hR hk hd K hK
      obtain ⟨v46, e46, g46, f46⟩ := hd 16 46 (by kernel_rfl) rfl
      have f46 : v46 = .bool true := f46
      subst f46
      obtain ⟨v51, e51, g51, f51⟩ := hd 21 51 (by kernel_rfl) rfl
      have f51 : v51 = .bool true := f51
      subst f51
      clear hk hd
      have HR := Lib.hid hR
      clear hR
      go_simp
      exact hK _ _ (Below.refl _ _) rfl
    · intro ra RW hR hk hd K hK
      obtain ⟨v52, e52, g52, f52⟩ := hd 22 52 (by kernel_rfl) rfl
      have f52 : v52 = .bool true := f52
      subst f52
      clear hk hd
      have HR := Lib.hid hR
      clear hR
      go_simp
      exact hK _ _ (Below.refl _ _) rfl
  intro vs RW hR hF
  have q0 : vs 0 = .int .i64 gx := hF 0 (by decide)
  have q1 : vs 1 = .int .i64 gx := hF 1 (by decide)
  have q2 : vs 2 = .bool true := hF 2 (by decide)
  have q3 : vs 3 = .bool true := hF 3 (by decide)
  have q4 : vs 4 = .int .i64 gy := hF 4 (by decide)
  have q5 : vs 5 = .int .i64 gy := hF 5 (by decide)
  have q6 : vs 6 = .bool true := hF 6 (by decide)
  have q7 : vs 7 = .bool true := hF 7 (by decide)
  have q8 : vs 8 = .bool true := hF 8 (by decide)
  have q9 : vs 9 = .slice A2 n c2 := hF 9 (by decide)
  have q10 : vs 10 = .bool o := hF 10 (by decide)
  have q11 : vs 11 = .slice A n c := hF 11 (by decide)
  have q12 : vs 12 = .string X := hF 12 (by decide)
  have q13 : vs 13 = .bool o := hF 13 (by decide)
  have q14 : vs 14 = .bool true := hF 14 (by decide)
  have q15 : vs 15 = .bool true := hF 15 (by decide)
  have q16 : vs 16 = .bool true := hF 16 (by decide)
  have q17 : vs 17 = .slice A2 n c2 := hF 17 (by decide)
  have q18 : vs 18 = .string X := hF 18 (by decide)
  have q19 : vs 19 = .slice A n c := hF 19 (by decide)
  have q20 : vs 20 = .string X := hF 20 (by decide)
  have q21 : vs 21 = .bool true := hF 21 (by decide)
  have q22 : vs 22 = .bool true := hF 22 (by decide)
  have q23 : vs 23 = .bool true := hF 23 (by decide)
  simp only [setAll, List.setIfInBounds_toArray, List.set_cons_zero, List.set_cons_succ, q0, q1, q2, q3, q4, q5, q6, q7, q8, q9, q10, q11, q12, q13, q14, q15, q16, q17, q18, q19, q20, q21, q22, q23]
  clear hF q0 q1 q2 q3 q4 q5 q6 q7 q8 q9 q10 q11 q12 q13 q14 q15 q16 q17 q18 q19 q20 q21 q22 q23
  clear vs
  go_wp2_with fail
  go_ret
  exact ⟨rfl, below_trans HB13.out.drew hR⟩

set_option maxHeartbeats 400000 in
theorem gets_any (bs : List UInt8) (A : Option Addr) (n c : Nat) (w : World) (hr : Rd w w.heap.size 1 A n (bs.map bV)) (hc : n ≤ c) :
    Calls Try.prog 7 #[.slice A n c] w fun e w' => e = .returned (.bool true) ∧ Below w.heap.size w w' := by
  by_cases hn : n ≤ 100
  · exact gets_small bs A n c w hr hn hc
  · have hn' : (100 : Int) < (n : Int) := by omega
    clear hr
    go_enter Try.func7, Try.ntmps7
    go_wp2_with fail
    refine (awake_any _).mono ?_
    rintro e w1 ⟨rfl, hb1⟩
    go_wp2_with fail
    refine (awake_any _).mono ?_
    rintro e w2 ⟨rfl, hb2⟩
    go_wp2_with fail
    go_ret
    exact ⟨rfl, below_trans hb1 hb2⟩
end Go.Proofs.Yteigpmfhhmlgoaa
