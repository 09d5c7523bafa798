/-
  The law CodePuts of reedbedlaw01 returns true; no condition beyond those that each theorem states.
-/
import Derived.Test.YteigpmfhhmlgoaaPlain2
namespace Go.Proofs.Yteigpmfhhmlgoaa
open Go.RowKit Go.Rb

theorem get_put (r : Int) (rest : List UInt8) : getP (putL r ++ rest) = ((if isB r = true then r else 65533), ((putL r).length : Int)) := by
  cases hb : isB r
  · have h : putL r = putV 65533 := by unfold putL; rw [hb]; rfl
    rw [h, getP_put 65533 rest (by decide), putV_len 65533 (by decide)]
    rfl
  · rw [putL_of hb, getP_put r rest hb, putV_len r hb]
    rfl
theorem putL_bd (r : Int) : (putL r).length ≤ 4 ∧ 0 < (putL r).length := by
  have key : ∀ r, isB r = true → (putV r).length ≤ 4 ∧ 0 < (putV r).length := by
    intro r hb
    have := putV_len r hb
    rcases size_cases r with ⟨hb', hs⟩ | ⟨_, h0, h1, ⟨h2, hs⟩ | ⟨h2, h3, hs⟩ | ⟨h2, h3, hs⟩ | ⟨h2, hs⟩⟩
    · rw [hb] at hb'; cases hb'
    all_goals omega
  cases hb : isB r
  · rw [show putL r = putV 65533 by unfold putL; rw [hb]; rfl]
    exact key _ (by decide)
  · rw [putL_of hb]
    exact key _ hb

set_option maxHeartbeats 1000000 in
theorem puts_small (r : Int) (rest : List UInt8) (A : Option Addr) (n c : Nat) (w : World) (hr : Rd w w.heap.size 1 A n (rest.map bV)) (hn : n ≤ 100) (hc : n ≤ c) :
    Calls Try.prog 5 #[.int .i64 r, .slice A n c] w fun e w' => e = .returned (.bool true) ∧ Below w.heap.size w w' := by
  obtain ⟨i0, hi0, hz0, hz1, hz2⟩ := info_parts info5
  have hbd := putL_bd r
  have hg := get_put r rest
  have hnl : rest.length = n := by simpa using hr.1
  obtain ⟨z, hz⟩ : ∃ z, isB r = z := ⟨_, rfl⟩
  obtain ⟨sz, hsz⟩ : ∃ z, sizeI r = z := ⟨_, rfl⟩
  have h1 := codeIs_any r
  have h2 := refIs_any r
  have h3 := codeSize_any r
  have h4 := refSize_any r
  have h5 := refPut_any r
  have h6 := codePut_any r
  rw [hz] at h1 h2
  rw [hsz] at h3 h4
  have hx : (z = true ∧ (if isB r = true then r else 65533) = r) ∨ (z = false ∧ (if isB r = true then r else 65533) = 65533 ∧ r ≠ 65533) := by
    cases z
    · exact .inr ⟨rfl, by rw [hz]; rfl, by rintro rfl; exact absurd hz (by decide)⟩
    · exact .inl ⟨rfl, by rw [hz]; rfl⟩
  generalize hX : (if isB r = true then r else 65533) = x at *
  generalize hB : putL r = bs at *
  have HC := Lib.hid h1
  have HI := Lib.hid h2
  have HS := Lib.hid h3
  have HT := Lib.hid h4
  have HP := Lib.hid h5
  have HQ := Lib.hid h6
  have HG := Lib.hid hg
  have HA := Lib.hid hr
  have HNL := Lib.hid hnl
  have HXX := Lib.hid hx
  clear h1 h2 h3 h4 h5 h6 hg hr hnl hx hX hB hz hsz
  obtain ⟨hb4, hb0⟩ := hbd
  go_enter Try.func5, Try.ntmps5
  go_wp2_with fail
  refine (awake_any _).mono ?_
  rintro e w1 ⟨rfl, hb1⟩
  go_wp2_with fail
  refine (HQ.out _).mono ?_
  rintro e w2 ⟨v2, rfl, ho2, hb2, hn2⟩
  obtain ⟨A2, c2, rfl, hr2, hc2⟩ := Own.rd' ho2
  have HR2 := Lib.hid hr2
  clear hr2 ho2 hn2
  have hb12 := below_trans hb1 hb2
  clear hb1 hb2
  have HW : Hid (Below w2.heap.size w2 w2.drew) := (Below.refl _ _).drew
  go_wp2_with fail
  refine region_rows (by kernel_rfl) (fun W W' => Below W.heap.size W W')
    [.val (.int .i64 r),
     .val (.bool z),
     .val (.int .i64 r),
     .val (.bool z),
     .val (.bool false),
     .val (.bool false),
     .val (.int .i64 r),
     .val (.int .i64 sz),
     .val (.int .i64 r),
     .val (.int .i64 sz),
     .val (.bool false),
     .val (.bool false),
     .val (.bool false),
     .val (.slice A2 bs.length c2),
     .val (.string ⟨bs.toArray⟩),
     .val (.int .i64 r),
     .val (.string ⟨bs.toArray⟩),
     .val (.bool false),
     .val (.bool false)]
    (fun W => Below.refl _ W) (fun _ _ _ h k => below_trans h k) (by kernel_rfl) ?_ ?_
  · refine ⟨?_, ?_, ?_, ?_, ?_, ?_, ?_, ?_, ?_, ?_, ?_, ?_, ?_, ?_, ?_, ?_, ?_, ?_, ?_, trivial⟩
    · intro ra RW hR hk hd K hK
      obtain ⟨e0, g0⟩ := hk 0 (.int .i64 r) (by kernel_rfl) rfl
      clear hk hd
      have HR := Lib.hid hR
      clear hR
      go_simp
      exact hK _ _ (Below.refl _ _) rfl
    · intro ra RW hR hk hd K hK
      obtain ⟨v18, e18, g18, f18⟩ := hd 0 18 (by kernel_rfl) rfl
      have f18 : v18 = .int .i64 r := f18
      subst f18
      clear hk hd
      have HR := Lib.hid hR
      clear hR
      go_simp
      refine (HC.out _).mono ?_
      rintro e w2 ⟨rfl, rfl⟩
      exact hK _ _ (Below.refl _ _) rfl
    · intro ra RW hR hk hd K hK
      obtain ⟨e0, g0⟩ := hk 0 (.int .i64 r) (by kernel_rfl) rfl
      clear hk hd
      have HR := Lib.hid hR
      clear hR
      go_simp
      exact hK _ _ (Below.refl _ _) rfl
    · intro ra RW hR hk hd K hK
      obtain ⟨v20, e20, g20, f20⟩ := hd 2 20 (by kernel_rfl) rfl
      have f20 : v20 = .int .i64 r := f20
      subst f20
      clear hk hd
      have HR := Lib.hid hR
      clear hR
      go_simp
      refine (HI.out _).mono ?_
      rintro e w2 ⟨rfl, rfl⟩
      exact hK _ _ (Below.refl _ _) rfl
    · intro ra RW hR hk hd K hK
      obtain ⟨v19, e19, g19, f19⟩ := hd 1 19 (by kernel_rfl) rfl
      have f19 : v19 = .bool z := f19
      subst f19
      obtain ⟨v21, e21, g21, f21⟩ := hd 3 21 (by kernel_rfl) rfl
      have f21 : v21 = .bool z := f21
      subst f21
      clear hk hd
      have HR := Lib.hid hR
      clear hR
      go_simp
      exact hK _ _ (Below.refl _ _) rfl
    · intro ra RW hR hk hd K hK
      obtain ⟨v22, e22, g22, f22⟩ := hd 4 22 (by kernel_rfl) rfl
      have f22 : v22 = .bool false := f22
      subst f22
      clear hk hd
      have HR := Lib.hid hR
      clear hR
      go_simp
      exact hK _ _ (Below.refl _ _) rfl
    · intro ra RW hR hk hd K hK
      obtain ⟨e0, g0⟩ := hk 0 (.int .i64 r) (by kernel_rfl) rfl
      obtain ⟨v23, e23, g23, f23⟩ := hd 5 23 (by kernel_rfl) rfl
      have f23 : v23 = .bool false := f23
      subst f23
      clear hk hd
      have HR := Lib.hid hR
      clear hR
      go_simp
      exact hK _ _ (Below.refl _ _) rfl
    · intro ra RW hR hk hd K hK
      obtain ⟨v24, e24, g24, f24⟩ := hd 6 24 (by kernel_rfl) rfl
      have f24 : v24 = .int .i64 r := f24
      subst f24
      obtain ⟨v23, e23, g23, f23⟩ := hd 5 23 (by kernel_rfl) rfl
      have f23 : v23 = .bool false := f23
      subst f23
      clear hk hd
      have HR := Lib.hid hR
      clear hR
      go_simp
      refine (HS.out _).mono ?_
      rintro e w2 ⟨rfl, rfl⟩
      exact hK _ _ (Below.refl _ _) rfl
    · intro ra RW hR hk hd K hK
      obtain ⟨e0, g0⟩ := hk 0 (.int .i64 r) (by kernel_rfl) rfl
      obtain ⟨v23, e23, g23, f23⟩ := hd 5 23 (by kernel_rfl) rfl
      have f23 : v23 = .bool false := f23
      subst f23
      clear hk hd
      have HR := Lib.hid hR
      clear hR
      go_simp
      exact hK _ _ (Below.refl _ _) rfl
    · intro ra RW hR hk hd K hK
      obtain ⟨v26, e26, g26, f26⟩ := hd 8 26 (by kernel_rfl) rfl
      have f26 : v26 = .int .i64 r := f26
      subst f26
      obtain ⟨v23, e23, g23, f23⟩ := hd 5 23 (by kernel_rfl) rfl
      have f23 : v23 = .bool false := f23
      subst f23
      clear hk hd
      have HR := Lib.hid hR
      clear hR
      go_simp
      refine (HT.out _).mono ?_
      rintro e w2 ⟨rfl, rfl⟩
      exact hK _ _ (Below.refl _ _) rfl
    · intro ra RW hR hk hd K hK
      obtain ⟨v25, e25, g25, f25⟩ := hd 7 25 (by kernel_rfl) rfl
      have f25 : v25 = .int .i64 sz := f25
      subst f25
      obtain ⟨v27, e27, g27, f27⟩ := hd 9 27 (by kernel_rfl) rfl
      have f27 : v27 = .int .i64 sz := f27
      subst f27
      obtain ⟨v23, e23, g23, f23⟩ := hd 5 23 (by kernel_rfl) rfl
      have f23 : v23 = .bool false := f23
      subst f23
      clear hk hd
      have HR := Lib.hid hR
      clear hR
      go_simp
      exact hK _ _ (Below.refl _ _) rfl
    · intro ra RW hR hk hd K hK
      obtain ⟨v23, e23, g23, f23⟩ := hd 5 23 (by kernel_rfl) rfl
      have f23 : v23 = .bool false := f23
      subst f23
      obtain ⟨v28, e28, g28, f28⟩ := hd 10 28 (by kernel_rfl) rfl
      have f28 : v28 = .bool false := f28
      subst f28
      clear hk hd
      have HR := Lib.hid hR
      clear hR
      go_simp
      exact hK _ _ (Below.refl _ _) rfl
    · intro ra RW hR hk hd K hK
      obtain ⟨v29, e29, g29, f29⟩ := hd 11 29 (by kernel_rfl) rfl
      have f29 : v29 = .bool false := f29
      subst f29
      clear hk hd
      have HR := Lib.hid hR
      clear hR
      go_simp
      exact hK _ _ (Below.refl _ _) rfl
    · intro ra RW hR hk hd K hK
      obtain ⟨e5, g5⟩ := hk 5 (.slice A2 bs.length c2) (by kernel_rfl) rfl
      obtain ⟨v30, e30, g30, f30⟩ := hd 12 30 (by kernel_rfl) rfl
      have f30 : v30 = .bool false := f30
      subst f30
      clear hk hd
      have HR := Lib.hid hR
      clear hR
      go_simp
      exact hK _ _ (Below.refl _ _) rfl
    · intro ra RW hR hk hd K hK
      obtain ⟨v31, e31, g31, f31⟩ := hd 13 31 (by kernel_rfl) rfl
      have f31 : v31 = .slice A2 bs.length c2 := f31
      subst f31
      obtain ⟨v30, e30, g30, f30⟩ := hd 12 30 (by kernel_rfl) rfl
      have f30 : v30 = .bool false := f30
      subst f30
      clear hk hd
      have HR := Lib.hid hR
      clear hR
      go_simp
      rw [conv_rd (HR2.out.below (HW.out.trans (HR.out.mono HW.out.size)))]
      go_simp
      exact hK _ _ (Below.refl _ _) rfl
    · intro ra RW hR hk hd K hK
      obtain ⟨e0, g0⟩ := hk 0 (.int .i64 r) (by kernel_rfl) rfl
      obtain ⟨v30, e30, g30, f30⟩ := hd 12 30 (by kernel_rfl) rfl
      have f30 : v30 = .bool false := f30
      subst f30
      clear hk hd
      have HR := Lib.hid hR
      clear hR
      go_simp
      exact hK _ _ (Below.refl _ _) rfl
    · intro ra RW hR hk hd K hK
      obtain ⟨v33, e33, g33, f33⟩ := hd 15 33 (by kernel_rfl) rfl
      have f33 : v33 = .int .i64 r := f33
      subst f33
      obtain ⟨v30, e30, g30, f30⟩ := hd 12 30 (by kernel_rfl) rfl
      have f30 : v30 = .bool false := f30
      subst f30
      clear hk hd
      have HR := Lib.hid hR
      clear hR
      go_simp
      refine (HP.out _).mono ?_
      rintro e w2 ⟨rfl, hb2⟩
      exact hK _ _ hb2 rfl
    · intro ra RW hR hk hd K hK
      obtain ⟨v32, e32, g32, f32⟩ := hd 14 32 (by kernel_rfl) rfl
      have f32 : v32 = .string ⟨bs.toArray⟩ := f32
      subst f32
      obtain ⟨v34, e34, g34, f34⟩ := hd 16 34 (by kernel_rfl) rfl
      have f34 : v34 = .string ⟨bs.toArray⟩ := f34
      subst f34
      obtain ⟨v30, e30, g30, f30⟩ := hd 12 30 (by kernel_rfl) rfl
      have f30 : v30 = .bool false := f30
      subst f30
      clear hk hd
      have HR := Lib.hid hR
      clear hR
      go_simp
      exact hK _ _ (Below.refl _ _) rfl
    · intro ra RW hR hk hd K hK
      obtain ⟨v30, e30, g30, f30⟩ := hd 12 30 (by kernel_rfl) rfl
      have f30 : v30 = .bool false := f30
      subst f30
      obtain ⟨v35, e35, g35, f35⟩ := hd 17 35 (by kernel_rfl) rfl
      have f35 : v35 = .bool false := f35
      subst f35
      clear hk hd
      have HR := Lib.hid hR
      clear hR
      go_simp
      exact hK _ _ (Below.refl _ _) rfl
  intro vs RW hR hF
  have q0 : vs 0 = .int .i64 r := hF 0 (by decide)
  have q1 : vs 1 = .bool z := hF 1 (by decide)
  have q2 : vs 2 = .int .i64 r := hF 2 (by decide)
  have q3 : vs 3 = .bool z := hF 3 (by decide)
  have q4 : vs 4 = .bool false := hF 4 (by decide)
  have q5 : vs 5 = .bool false := hF 5 (by decide)
  have q6 : vs 6 = .int .i64 r := hF 6 (by decide)
  have q7 : vs 7 = .int .i64 sz := hF 7 (by decide)
  have q8 : vs 8 = .int .i64 r := hF 8 (by decide)
  have q9 : vs 9 = .int .i64 sz := hF 9 (by decide)
  have q10 : vs 10 = .bool false := hF 10 (by decide)
  have q11 : vs 11 = .bool false := hF 11 (by decide)
  have q12 : vs 12 = .bool false := hF 12 (by decide)
  have q13 : vs 13 = .slice A2 bs.length c2 := hF 13 (by decide)
  have q14 : vs 14 = .string ⟨bs.toArray⟩ := hF 14 (by decide)
  have q15 : vs 15 = .int .i64 r := hF 15 (by decide)
  have q16 : vs 16 = .string ⟨bs.toArray⟩ := hF 16 (by decide)
  have q17 : vs 17 = .bool false := hF 17 (by decide)
  have q18 : vs 18 = .bool false := hF 18 (by decide)
  simp only [setAll, List.setIfInBounds_toArray, List.set_cons_zero, List.set_cons_succ, q0, q1, q2, q3, q4, q5, q6, q7, q8, q9, q10, q11, q12, q13, q14, q15, q16, q17, q18]
  clear hF q0 q1 q2 q3 q4 q5 q6 q7 q8 q9 q10 q11 q12 q13 q14 q15 q16 q17 q18
  clear vs
  have hsz2 : w2.heap.size ≤ RW.heap.size := hR.size
  have HR3 := Lib.hid (HR2.out.below (HW.out.trans (hR.mono HW.out.size)))
  have hb13 : Below w.heap.size w RW := below_trans hb12.drew hR
  clear hb12 hR
  have h63 : 0 + bs.length ≤ maxLen := by simp only [maxLen]; omega
  have h64 : (0 + bs.length) + n ≤ maxLen := by simp only [maxLen]; omega
  have H63 := Lib.hid h63; have H64 := Lib.hid h64
  clear h63 h64
  have HB13 := Lib.hid hb13
  clear hb13
  have hcc : Hid (w2.heap.size ≤ RW.heap.size) := by
    exact hsz2
  go_wp2_with (first
    | (at_builtin; refine wpList_append_rd _ rfl (.tmp 38) (.tmp 39) _ rfl 5 i0 _ 1 1 Try.underlying24 hi0 hz0 hz1 hz2 rfl (by omega) (.slice (some ⟨RW.heap.size, 0, none⟩) 0 0) 0 [] rfl
        (by exact Own.lit RW 5 1 0 #[] rfl (by decide)) w2.heap.size A2 bs.length c2 (bs.map bV) rfl (by exact HR3.out.below ((below_al (Below.refl _ _) _).mono hcc.out)) (by simp [bV, Value.oneCell']) H63.out (by omega) _ rfl ?_;
       intro v3 w3 hown3 hgrow3 hat3)
    | (at_builtin; refine wpList_append_rd _ rfl (.tmp 40) (.tmp 41) _ rfl 5 i0 _ 1 1 Try.underlying24 hi0 hz0 hz1 hz2 rfl (by omega) v3 (0 + bs.length) _ rfl
        hown3 w.heap.size A n c (rest.map bV) rfl (by exact HA.out.below (HB13.out.trans (Below.grown (below_al (Below.refl _ _) _) hgrow3 (by simp) (by simp [Value.ownBlock])|>.mono HB13.out.size))) (by simp [bV, Value.oneCell']) H64.out (by omega) _ rfl ?_;
       intro v4 w4 hown4 hgrow4 hat4))
  have hb23 : Below RW.heap.size RW w3 := Below.grown (below_al (Below.refl _ RW) _) hgrow3 (by simp) (by simp [Value.ownBlock])
  have hb24 : Below RW.heap.size RW w4 := Below.grown hb23 hgrow4 hb23.size (by
    intro k hk
    rcases hat3 with h | h <;> rw [h] at hk
    · simp [Value.ownBlock] at hk; omega
    · simp at hk; omega)
  have hb4' : Below w.heap.size w w4 := below_trans HB13.out hb24
  obtain ⟨A4, c4, rfl, hr4, hc4⟩ := Own.rd' (xs := (bs ++ rest).map bV) (by simpa using hown4)
  clear hown3 hown4 hgrow3 hgrow4 hat3 hat4 hb23 hb24
  have HB4 := Lib.hid hb4'
  have HR4 := Lib.hid hr4
  clear hr4 hb4'
  refine (codeGet_any (bs ++ rest) A4 _ c4 _ w4 HR4.out hc4 (by omega)).mono ?_
  rw [HG.out]
  rintro e w5 ⟨rfl, rfl⟩
  rcases HXX.out with ⟨rfl, rfl⟩ | ⟨rfl, rfl, hne⟩
  · go_wp2_with (go_at_call 10; refine (HI.out _).mono ?_; rintro e w' ⟨rfl, rfl⟩)
    go_ret
    exact ⟨by simp, HB4.out⟩
  · have hne' : ((65533 : Int) == r) = false := by simpa using fun h => hne h.symm
    go_wp2_with (go_at_call 10; refine (HI.out _).mono ?_; rintro e w' ⟨rfl, rfl⟩)
    go_ret
    exact ⟨by simp, HB4.out⟩

set_option maxHeartbeats 400000 in
theorem puts_any (r : Int) (rest : List UInt8) (A : Option Addr) (n c : Nat) (w : World) (hr : Rd w w.heap.size 1 A n (rest.map bV)) (hc : n ≤ c) :
    Calls Try.prog 5 #[.int .i64 r, .slice A n c] w fun e w' => e = .returned (.bool true) ∧ Below w.heap.size w w' := by
  by_cases hn : n ≤ 100
  · exact puts_small r rest A n c w hr hn hc
  · have hn' : (100 : Int) < (n : Int) := by omega
    clear hr
    go_enter Try.func5, Try.ntmps5
    go_wp2_with fail
    refine (awake_any _).mono ?_
    rintro e w1 ⟨rfl, hb1⟩
    go_wp2_with fail
    refine (awake_any _).mono ?_
    rintro e w2 ⟨rfl, hb2⟩
    go_wp2_with fail
    go_ret
    exact ⟨rfl, below_trans hb1 hb2⟩
end Go.Proofs.Yteigpmfhhmlgoaa
