/-
  The law CodeOrder of reedbedlaw01 returns true; no condition beyond those that each theorem states.
-/
import Derived.Test.YteigpmfhhmlgoaaCode5
import Derived.Test.YteigpmfhhmlgoaaRegion
import Derived.Test.YteigpmfhhmlgoaaPlain1
import Derived.Test.YteigpmfhhmlgoaaRegion
import Derived.Test.YteigpmfhhmlgoaaPlain1
import Derived.Test.YteigpmfhhmlgoaaRegion
import Derived.Test.YteigpmfhhmlgoaaPlain1
namespace Go.Proofs.Yteigpmfhhmlgoaa
open Go.RowKit Go.Rb

def sOf (r : Int) : ByteArray := ⟨(putL r).toArray⟩

theorem putS (r : Int) (W : World) : Calls Try.prog 11 #[.int .i64 r] W fun e w' => ∃ v, e = .returned v ∧ Below W.heap.size W w' ∧ ∀ W2, Below w'.heap.size w' W2 → (convert 24 9 v).run Try.prog W2 = .ok (.string (sOf r)) W2 :=
  (codePut_any r W).mono fun _ _ ⟨v, he, ho, hb, _⟩ => ⟨v, he, hb, fun _ h => conv_later ho h⟩

set_option maxHeartbeats 1000000 in
theorem order_valid (a b : Int) (sa sb : ByteArray) (ha : isB a = true) (hb : isB b = true) (hsa : sOf a = sa) (hsb : sOf b = sb)
    (hl : Op.bytesLess sa.toList sb.toList = decide (a < b)) (he : (sa.toList == sb.toList) = (a == b)) (w : World) :
    Calls Try.prog 3 #[.int .i64 a, .int .i64 b] w fun e w' => e = .returned (.bool true) ∧ Below w.heap.size w w' := by
  have hia := refIs_any a
  have hib := refIs_any b
  have hpa := putS a
  have hpb := putS b
  rw [ha] at hia
  rw [hb] at hib
  rw [hsa] at hpa
  rw [hsb] at hpb
  have HIA := Lib.hid hia
  have HIB := Lib.hid hib
  have HPA := Lib.hid hpa
  have HPB := Lib.hid hpb
  have HL := Lib.hid hl
  have HE := Lib.hid he
  clear hia hib hpa hpb ha hb hsa hsb hl he
  go_enter Try.func3, Try.ntmps3
  go_wp2_with fail
  refine (awake_any _).mono ?_
  rintro e w1 ⟨rfl, hb1⟩
  go_wp2_with fail
  refine (HIA.out _).mono ?_
  rintro e w' ⟨rfl, rfl⟩
  go_wp2_with fail
  refine (HIB.out _).mono ?_
  rintro e w' ⟨rfl, rfl⟩
  go_wp2_with fail
  have hbw : Hid (Below w.heap.size w w1.drew) := hb1.drew
  clear hb1
  refine region_rows (by kernel_rfl) (fun W W' => Below W.heap.size W W')
    [.val (.int .i64 a),
     .val (.int .i64 b),
     .val (.bool (decide (a < b))),
     .val (.int .i64 a),
     ⟨fun v W => ∀ W2, Below W.heap.size W W2 → (convert 24 9 v).run Try.prog W2 = .ok (.string sa) W2, fun _ _ _ h hR _ hb => h _ (below_trans hR hb)⟩,
     .val (.string sa),
     .val (.int .i64 b),
     ⟨fun v W => ∀ W2, Below W.heap.size W W2 → (convert 24 9 v).run Try.prog W2 = .ok (.string sb) W2, fun _ _ _ h hR _ hb => h _ (below_trans hR hb)⟩,
     .val (.string sb),
     .val (.bool (decide (a < b))),
     .val (.bool true),
     .val (.bool true),
     .val (.int .i64 a),
     .val (.int .i64 b),
     .val (.bool (a == b)),
     .val (.int .i64 a),
     ⟨fun v W => ∀ W2, Below W.heap.size W W2 → (convert 24 9 v).run Try.prog W2 = .ok (.string sa) W2, fun _ _ _ h hR _ hb => h _ (below_trans hR hb)⟩,
     .val (.string sa),
     .val (.int .i64 b),
     ⟨fun v W => ∀ W2, Below W.heap.size W W2 → (convert 24 9 v).run Try.prog W2 = .ok (.string sb) W2, fun _ _ _ h hR _ hb => h _ (below_trans hR hb)⟩,
     .val (.string sb),
     .val (.bool (a == b)),
     .val (.bool true),
     .val (.bool true),
     .val (.bool true)]
    (fun W => Below.refl _ W) (fun _ _ _ h k => below_trans h k) (by kernel_rfl) ?rgsteps ?rgfin
  case rgsteps =>
    refine ⟨?_, ?_, ?_, ?_, ?_, ?_, ?_, ?_, ?_, ?_, ?_, ?_, ?_, ?_, ?_, ?_, ?_, ?_, ?_, ?_, ?_, ?_, ?_, ?_, ?_, trivial⟩
    · intro ra RW hR hk hd K hK
      obtain ⟨e0, g0⟩ := hk 0 (.int .i64 a) (by kernel_rfl) rfl
      clear hk hd
      have HR := Lib.hid hR
      clear hR
      go_simp
      exact hK _ _ (Below.refl _ _) rfl
    · intro ra RW hR hk hd K hK
      obtain ⟨e1, g1⟩ := hk 1 (.int .i64 b) (by kernel_rfl) rfl
      clear hk hd
      have HR := Lib.hid hR
      clear hR
      go_simp
      exact hK _ _ (Below.refl _ _) rfl
    · intro ra RW hR hk hd K hK
      obtain ⟨v18, e18, g18, f18⟩ := hd 0 18 (by kernel_rfl) rfl
      have f18 : v18 = .int .i64 a := f18
      subst f18
      obtain ⟨v19, e19, g19, f19⟩ := hd 1 19 (by kernel_rfl) rfl
      have f19 : v19 = .int .i64 b := f19
      subst f19
      clear hk hd
      have HR := Lib.hid hR
      clear hR
      go_simp
      exact hK _ _ (Below.refl _ _) rfl
    · intro ra RW hR hk hd K hK
      obtain ⟨e0, g0⟩ := hk 0 (.int .i64 a) (by kernel_rfl) rfl
      clear hk hd
      have HR := Lib.hid hR
      clear hR
      go_simp
      exact hK _ _ (Below.refl _ _) rfl
    · intro ra RW hR hk hd K hK
      obtain ⟨v21, e21, g21, f21⟩ := hd 3 21 (by kernel_rfl) rfl
      have f21 : v21 = .int .i64 a := f21
      subst f21
      clear hk hd
      have HR := Lib.hid hR
      clear hR
      go_simp
      refine (HPA.out _).mono ?_
      rintro e w2 ⟨v2, rfl, hb2, hc2⟩
      exact hK _ _ hb2 hc2
    · intro ra RW hR hk hd K hK
      obtain ⟨v22, e22, g22, f22⟩ := hd 4 22 (by kernel_rfl) rfl
      have F22 := Lib.hid f22
      clear f22
      clear hk hd
      have HR := Lib.hid hR
      clear hR
      go_simp
      rw [F22.out _ (Below.refl _ _)]
      go_simp
      exact hK _ _ (Below.refl _ _) rfl
    · intro ra RW hR hk hd K hK
      obtain ⟨e1, g1⟩ := hk 1 (.int .i64 b) (by kernel_rfl) rfl
      clear hk hd
      have HR := Lib.hid hR
      clear hR
      go_simp
      exact hK _ _ (Below.refl _ _) rfl
    · intro ra RW hR hk hd K hK
      obtain ⟨v24, e24, g24, f24⟩ := hd 6 24 (by kernel_rfl) rfl
      have f24 : v24 = .int .i64 b := f24
      subst f24
      clear hk hd
      have HR := Lib.hid hR
      clear hR
      go_simp
      refine (HPB.out _).mono ?_
      rintro e w2 ⟨v2, rfl, hb2, hc2⟩
      exact hK _ _ hb2 hc2
    · intro ra RW hR hk hd K hK
      obtain ⟨v25, e25, g25, f25⟩ := hd 7 25 (by kernel_rfl) rfl
      have F25 := Lib.hid f25
      clear f25
      clear hk hd
      have HR := Lib.hid hR
      clear hR
      go_simp
      rw [F25.out _ (Below.refl _ _)]
      go_simp
      exact hK _ _ (Below.refl _ _) rfl
    · intro ra RW hR hk hd K hK
      obtain ⟨v23, e23, g23, f23⟩ := hd 5 23 (by kernel_rfl) rfl
      have f23 : v23 = .string sa := f23
      subst f23
      obtain ⟨v26, e26, g26, f26⟩ := hd 8 26 (by kernel_rfl) rfl
      have f26 : v26 = .string sb := f26
      subst f26
      clear hk hd
      have HR := Lib.hid hR
      clear hR
      go_simp
      rw [HL.out]
      exact hK _ _ (Below.refl _ _) rfl
    · intro ra RW hR hk hd K hK
      obtain ⟨v20, e20, g20, f20⟩ := hd 2 20 (by kernel_rfl) rfl
      have f20 : v20 = .bool (decide (a < b)) := f20
      subst f20
      obtain ⟨v27, e27, g27, f27⟩ := hd 9 27 (by kernel_rfl) rfl
      have f27 : v27 = .bool (decide (a < b)) := f27
      subst f27
      clear hk hd
      have HR := Lib.hid hR
      clear hR
      go_simp
      exact hK _ _ (Below.refl _ _) rfl
    · intro ra RW hR hk hd K hK
      obtain ⟨v28, e28, g28, f28⟩ := hd 10 28 (by kernel_rfl) rfl
      have f28 : v28 = .bool true := f28
      subst f28
      clear hk hd
      have HR := Lib.hid hR
      clear hR
      go_simp
      exact hK _ _ (Below.refl _ _) rfl
    · intro ra RW hR hk hd K hK
      obtain ⟨e0, g0⟩ := hk 0 (.int .i64 a) (by kernel_rfl) rfl
      obtain ⟨v29, e29, g29, f29⟩ := hd 11 29 (by kernel_rfl) rfl
      have f29 : v29 = .bool true := f29
      subst f29
      clear hk hd
      have HR := Lib.hid hR
      clear hR
      go_simp
      exact hK _ _ (Below.refl _ _) rfl
    · intro ra RW hR hk hd K hK
      obtain ⟨e1, g1⟩ := hk 1 (.int .i64 b) (by kernel_rfl) rfl
      obtain ⟨v29, e29, g29, f29⟩ := hd 11 29 (by kernel_rfl) rfl
      have f29 : v29 = .bool true := f29
      subst f29
      clear hk hd
      have HR := Lib.hid hR
      clear hR
      go_simp
      exact hK _ _ (Below.refl _ _) rfl
    · intro ra RW hR hk hd K hK
      obtain ⟨v30, e30, g30, f30⟩ := hd 12 30 (by kernel_rfl) rfl
      have f30 : v30 = .int .i64 a := f30
      subst f30
      obtain ⟨v31, e31, g31, f31⟩ := hd 13 31 (by kernel_rfl) rfl
      have f31 : v31 = .int .i64 b := f31
      subst f31
      obtain ⟨v29, e29, g29, f29⟩ := hd 11 29 (by kernel_rfl) rfl
      have f29 : v29 = .bool true := f29
      subst f29
      clear hk hd
      have HR := Lib.hid hR
      clear hR
      go_simp
      exact hK _ _ (Below.refl _ _) rfl
    · intro ra RW hR hk hd K hK
      obtain ⟨e0, g0⟩ := hk 0 (.int .i64 a) (by kernel_rfl) rfl
      obtain ⟨v29, e29, g29, f29⟩ := hd 11 29 (by kernel_rfl) rfl
      have f29 : v29 = .bool true := f29
      subst f29
      clear hk hd
      have HR := Lib.hid hR
      clear hR
      go_simp
      exact hK _ _ (Below.refl _ _) rfl
    · intro ra RW hR hk hd K hK
      obtain ⟨v33, e33, g33, f33⟩ := hd 15 33 (by kernel_rfl) rfl
      have f33 : v33 = .int .i64 a := f33
      subst f33
      obtain ⟨v29, e29, g29, f29⟩ := hd 11 29 (by kernel_rfl) rfl
      have f29 : v29 = .bool true := f29
      subst f29
      clear hk hd
      have HR := Lib.hid hR
      clear hR
      go_simp
      refine (HPA.out _).mono ?_
      rintro e w2 ⟨v2, rfl, hb2, hc2⟩
      exact hK _ _ hb2 hc2
    · intro ra RW hR hk hd K hK
      obtain ⟨v34, e34, g34, f34⟩ := hd 16 34 (by kernel_rfl) rfl
      have F34 := Lib.hid f34
      clear f34
      obtain ⟨v29, e29, g29, f29⟩ := hd 11 29 (by kernel_rfl) rfl
      have f29 : v29 = .bool true := f29
      subst f29
      clear hk hd
      have HR := Lib.hid hR
      clear hR
      go_simp
      rw [F34.out _ (Below.refl _ _)]
      go_simp
      exact hK _ _ (Below.refl _ _) rfl
    · intro ra RW hR hk hd K hK
      obtain ⟨e1, g1⟩ := hk 1 (.int .i64 b) (by kernel_rfl) rfl
      obtain ⟨v29, e29, g29, f29⟩ := hd 11 29 (by kernel_rfl) rfl
      have f29 : v29 = .bool true := f29
      subst f29
      clear hk hd
      have HR := Lib.hid hR
      clear hR
      go_simp
      exact hK _ _ (Below.refl _ _) rfl
    · intro ra RW hR hk hd K hK
      obtain ⟨v36, e36, g36, f36⟩ := hd 18 36 (by kernel_rfl) rfl
      have f36 : v36 = .int .i64 b := f36
      subst f36
      obtain ⟨v29, e29, g29, f29⟩ := hd 11 29 (by kernel_rfl) rfl
      have f29 : v29 = .bool true := f29
      subst f29
      clear hk hd
      have HR := Lib.hid hR
      clear hR
      go_simp
      refine (HPB.out _).mono ?_
      rintro e w2 ⟨v2, rfl, hb2, hc2⟩
      exact hK _ _ hb2 hc2
    · intro ra RW hR hk hd K hK
      obtain ⟨v37, e37, g37, f37⟩ := hd 19 37 (by kernel_rfl) rfl
      have F37 := Lib.hid f37
      clear f37
      obtain ⟨v29, e29, g29, f29⟩ := hd 11 29 (by kernel_rfl) rfl
      have f29 : v29 = .bool true := f29
      subst f29
      clear hk hd
      have HR := Lib.hid hR
      clear hR
      go_simp
      rw [F37.out _ (Below.refl _ _)]
      go_simp
      exact hK _ _ (Below.refl _ _) rfl
    · intro ra RW hR hk hd K hK
      obtain ⟨v35, e35, g35, f35⟩ := hd 17 35 (by kernel_rfl) rfl
      have f35 : v35 = .string sa := f35
      subst f35
      obtain ⟨v38, e38, g38, f38⟩ := hd 20 38 (by kernel_rfl) rfl
      have f38 : v38 = .string sb := f38
      subst f38
      obtain ⟨v29, e29, g29, f29⟩ := hd 11 29 (by kernel_rfl) rfl
      have f29 : v29 = .bool true := f29
      subst f29
      clear hk hd
      have HR := Lib.hid hR
      clear hR
      go_simp
      rw [HE.out]
      exact hK _ _ (Below.refl _ _) rfl
    · intro ra RW hR hk hd K hK
      obtain ⟨v32, e32, g32, f32⟩ := hd 14 32 (by kernel_rfl) rfl
      have f32 : v32 = .bool (a == b) := f32
      subst f32
      obtain ⟨v39, e39, g39, f39⟩ := hd 21 39 (by kernel_rfl) rfl
      have f39 : v39 = .bool (a == b) := f39
      subst f39
      obtain ⟨v29, e29, g29, f29⟩ := hd 11 29 (by kernel_rfl) rfl
      have f29 : v29 = .bool true := f29
      subst f29
      clear hk hd
      have HR := Lib.hid hR
      clear hR
      go_simp
      exact hK _ _ (Below.refl _ _) rfl
    · intro ra RW hR hk hd K hK
      obtain ⟨v29, e29, g29, f29⟩ := hd 11 29 (by kernel_rfl) rfl
      have f29 : v29 = .bool true := f29
      subst f29
      obtain ⟨v40, e40, g40, f40⟩ := hd 22 40 (by kernel_rfl) rfl
      have f40 : v40 = .bool true := f40
      subst f40
      clear hk hd
      have HR := Lib.hid hR
      clear hR
      go_simp
      exact hK _ _ (Below.refl _ _) rfl
    · intro ra RW hR hk hd K hK
      obtain ⟨v41, e41, g41, f41⟩ := hd 23 41 (by kernel_rfl) rfl
      have f41 : v41 = .bool true := f41
      subst f41
      clear hk hd
      have HR := Lib.hid hR
      clear hR
      go_simp
      exact hK _ _ (Below.refl _ _) rfl
  intro vs RW hR hF
  have q0 : vs 0 = .int .i64 a := hF 0 (by decide)
  have q1 : vs 1 = .int .i64 b := hF 1 (by decide)
  have q2 : vs 2 = .bool (decide (a < b)) := hF 2 (by decide)
  have q3 : vs 3 = .int .i64 a := hF 3 (by decide)
  have F22 := Lib.hid (hF 4 (by decide))
  have q5 : vs 5 = .string sa := hF 5 (by decide)
  have q6 : vs 6 = .int .i64 b := hF 6 (by decide)
  have F25 := Lib.hid (hF 7 (by decide))
  have q8 : vs 8 = .string sb := hF 8 (by decide)
  have q9 : vs 9 = .bool (decide (a < b)) := hF 9 (by decide)
  have q10 : vs 10 = .bool true := hF 10 (by decide)
  have q11 : vs 11 = .bool true := hF 11 (by decide)
  have q12 : vs 12 = .int .i64 a := hF 12 (by decide)
  have q13 : vs 13 = .int .i64 b := hF 13 (by decide)
  have q14 : vs 14 = .bool (a == b) := hF 14 (by decide)
  have q15 : vs 15 = .int .i64 a := hF 15 (by decide)
  have F34 := Lib.hid (hF 16 (by decide))
  have q17 : vs 17 = .string sa := hF 17 (by decide)
  have q18 : vs 18 = .int .i64 b := hF 18 (by decide)
  have F37 := Lib.hid (hF 19 (by decide))
  have q20 : vs 20 = .string sb := hF 20 (by decide)
  have q21 : vs 21 = .bool (a == b) := hF 21 (by decide)
  have q22 : vs 22 = .bool true := hF 22 (by decide)
  have q23 : vs 23 = .bool true := hF 23 (by decide)
  have q24 : vs 24 = .bool true := hF 24 (by decide)
  simp only [setAll, List.setIfInBounds_toArray, List.set_cons_zero, List.set_cons_succ, q0, q1, q2, q3, q5, q6, q8, q9, q10, q11, q12, q13, q14, q15, q17, q18, q20, q21, q22, q23, q24]
  clear hF q0 q1 q2 q3 q5 q6 q8 q9 q10 q11 q12 q13 q14 q15 q17 q18 q20 q21 q22 q23 q24
  generalize vs 4 = v22 at *
  generalize vs 7 = v25 at *
  generalize vs 16 = v34 at *
  generalize vs 19 = v37 at *
  clear vs
  have HR := Lib.hid hR
  clear hR
  go_wp2
  go_ret
  exact ⟨rfl, below_trans hbw.out HR.out⟩

set_option maxHeartbeats 400000 in
theorem order_wrong1 (a b : Int) (ha : isB a = false) (w : World) :
    Calls Try.prog 3 #[.int .i64 a, .int .i64 b] w fun e w' => e = .returned (.bool true) ∧ Below w.heap.size w w' := by
  have hia := refIs_any a
  rw [ha] at hia
  have HIA := Lib.hid hia
  clear hia ha
  go_enter Try.func3, Try.ntmps3
  go_wp2_with fail
  refine (awake_any _).mono ?_
  rintro e w1 ⟨rfl, hb1⟩
  go_wp2_with fail
  refine (HIA.out _).mono ?_
  rintro e w' ⟨rfl, rfl⟩
  go_wp2_with fail
  refine (awake_any _).mono ?_
  rintro e w2 ⟨rfl, hb2⟩
  go_wp2_with fail
  go_ret
  exact ⟨rfl, below_trans hb1 hb2⟩
set_option maxHeartbeats 400000 in
theorem order_wrong2 (a b : Int) (ha : isB a = true) (hb : isB b = false) (w : World) :
    Calls Try.prog 3 #[.int .i64 a, .int .i64 b] w fun e w' => e = .returned (.bool true) ∧ Below w.heap.size w w' := by
  have hia := refIs_any a
  have hib := refIs_any b
  rw [ha] at hia
  rw [hb] at hib
  have HIA := Lib.hid hia
  have HIB := Lib.hid hib
  clear hia ha hib hb
  go_enter Try.func3, Try.ntmps3
  go_wp2_with fail
  refine (awake_any _).mono ?_
  rintro e w1 ⟨rfl, hb1⟩
  go_wp2_with fail
  refine (HIA.out _).mono ?_
  rintro e w' ⟨rfl, rfl⟩
  go_wp2_with fail
  refine (HIB.out _).mono ?_
  rintro e w' ⟨rfl, rfl⟩
  go_wp2_with fail
  refine (awake_any _).mono ?_
  rintro e w2 ⟨rfl, hb2⟩
  go_wp2_with fail
  go_ret
  exact ⟨rfl, below_trans hb1 hb2⟩

theorem toList_sOf (r : Int) (h : isB r = true) : (sOf r).toList = putV r := by
  rw [ByteArray.toList_eq]
  simp [sOf, putL, h]
theorem order_any (a b : Int) (w : World) :
    Calls Try.prog 3 #[.int .i64 a, .int .i64 b] w fun e w' => e = .returned (.bool true) ∧ Below w.heap.size w w' := by
  cases ha : isB a
  · exact order_wrong1 a b ha w
  · cases hb : isB b
    · exact order_wrong2 a b ha hb w
    · exact order_valid a b (sOf a) (sOf b) ha hb rfl rfl (by rw [toList_sOf a ha, toList_sOf b hb]; exact order_less a b ha hb) (by rw [toList_sOf a ha, toList_sOf b hb]; exact order_same a b ha hb) w
end Go.Proofs.Yteigpmfhhmlgoaa
