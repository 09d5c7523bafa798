/-
  The law OrderEncodes of reedbedlaw02 returns true; no condition beyond those that each theorem states.
-/
import Derived.Test.YtkibjjndeimikaaAwakeO
import Derived.Test.YtkibjjndeimikaaRegion
namespace Go.Proofs.Ytkibjjndeimikaa
open Go.RowKit Go.Rb
attribute [local irreducible] Go.wpQuiet

theorem encL_even (k : Int) (h2 : k = 2 ∨ k = 3) : ∀ rs : List Int, encL k rs = octsL k (rs.flatMap unitsL)
  | [] => rfl
  | r :: rs => by
    have := encL_even k h2 rs
    unfold encL octsL at this ⊢
    rw [List.flatMap_cons, List.flatMap_cons, List.flatMap_append, this]
    unfold enc1
    rw [if_neg (by omega)]
    rfl
theorem octs_get2 : ∀ (us : List Int) (j : Nat) (h : j < us.length), (octsL 2 us)[2 * j]? = some (by_ (loU us[j])) ∧ (octsL 2 us)[2 * j + 1]? = some (by_ (hiU us[j])) ∧ (octsL 3 us)[2 * j]? = some (by_ (hiU us[j])) ∧ (octsL 3 us)[2 * j + 1]? = some (by_ (loU us[j]))
  | [], j, h => absurd h (by simp)
  | u :: us, 0, _ => ⟨rfl, rfl, rfl, rfl⟩
  | u :: us, j + 1, h => by
    obtain ⟨h1, h2, h3, h4⟩ := octs_get2 us j (by simpa using h)
    have e : 2 * (j + 1) = 2 * j + 1 + 1 := by omega
    have e2 : 2 * (j + 1) + 1 = 2 * j + 1 + 1 + 1 := by omega
    rw [e2, e]
    exact ⟨h1, h2, h3, h4⟩
set_option maxRecDepth 20000 in
set_option maxHeartbeats 8000000 in
theorem encodes_small (k : Int) (rs : List Int) (A : Option Addr) (n c : Nat) (w : World) (hA : Rd w w.heap.size 1 A n (rs.map iV)) (hn : n ≤ 40) :
    Calls Try.prog 3 #[.int .i64 k, .slice A n c] w fun e w' => e = .returned (.bool true) ∧ Below w.heap.size w w' := by
  have HA := Lib.hid hA
  have hl : rs.length = n := by simpa using hA.1
  have i1 : ¬ (40 : Int) < (n : Int) := by omega
  obtain ⟨us, hus⟩ : ∃ us, rs.flatMap unitsL = us := ⟨_, rfl⟩
  have e2 : encL 2 rs = octsL 2 us := by rw [encL_even 2 (.inl rfl), hus]
  have e3 : encL 3 rs = octsL 3 us := by rw [encL_even 3 (.inr rfl), hus]
  have hul : us.length ≤ 1000 := by
    have h1 := octsL_len 2 rfl us
    have h2 := encL_bd 2 rs
    rw [e2] at h2
    omega
  have HU := Lib.hid (octs_get2 us)
  have HE2 := Lib.hid e2
  have HE3 := Lib.hid e3
  obtain ⟨s, hs⟩ : ∃ s : ByteArray, (⟨(encL k rs).toArray⟩ : ByteArray) = s := ⟨_, rfl⟩
  have HS := Lib.hid hs
  clear hA hl hus e2 e3 hs
  go_enter Try.func3, Try.ntmps3
  go_wp2_with fail
  refine (awake_any _).mono ?_
  rintro e1 w1 ⟨rfl, hb1⟩
  have HB1 := Lib.hid hb1
  clear hb1
  go_wp2_with fail
  have HBD : Hid (Below w.heap.size w w1.drew) := below_drewN HB1.out 1
  have HEN : Hid (∀ W, Below w1.drew.heap.size w1.drew W → Calls Try.prog 8 #[.int .i64 k, .slice A n c] W fun e w' => ∃ v, e = .returned v ∧ Below W.heap.size W w' ∧ ∀ W2, Below w'.heap.size w' W2 → (convert 24 9 v).run Try.prog W2 = .ok (.string s) W2) := fun W hW =>
    (encode_any k rs A n c w.heap.size W (HA.out.below (below_trans HBD.out hW)) (by omega) (Nat.le_trans HBD.out.size hW.size)).mono fun e w' ⟨v, he, hn⟩ => ⟨v, he, hn.2.1, fun W2 hb => by rw [← HS.out]; exact conv_own (hn.1.below hb fun _ h => hn.1.lt h)⟩
  have HRE : Hid (∀ W, Below w1.drew.heap.size w1.drew W → Calls Try.prog 9 #[.int .i64 k, .slice A n c] W fun e w' => e = .returned (.string s) ∧ Below W.heap.size W w') := fun W hW => by
    have := rencode_any k rs A n c w.heap.size W (HA.out.below (below_trans HBD.out hW)) (by omega) (Nat.le_trans HBD.out.size hW.size)
    refine this.mono fun e w' ⟨he, hb⟩ => ⟨?_, hb⟩
    rw [he, ← HS.out]
    rfl
  clear HS
  refine region_rows (by kernel_rfl) (fun W W' => Below W.heap.size W W')
    [.val (.int .i64 k),
     .val (.slice A n c),
     ⟨fun v W => ∀ W2, Below W.heap.size W W2 → (convert 24 9 v).run Try.prog W2 = .ok (.string s) W2, fun _ _ _ h hR _ hb => h _ (below_trans hR hb)⟩,
     .val (.string s),
     .val (.int .i64 k),
     .val (.slice A n c),
     .val (.string s),
     .val (.bool false)]
    (fun W => Below.refl _ W) (fun _ _ _ h k => below_trans h k) (by kernel_rfl) ?_ ?_
  · refine ⟨?_, ?_, ?_, ?_, ?_, ?_, ?_, ?_, trivial⟩
    · intro ra RW hR hk hd K hK
      obtain ⟨e0, g0⟩ := hk 0 (.int .i64 k) (by kernel_rfl) rfl
      clear hk hd
      have HR := Lib.hid hR
      clear hR
      go_simp
      exact hK _ _ (Below.refl _ _) rfl
    · intro ra RW hR hk hd K hK
      obtain ⟨e1, g1⟩ := hk 1 (.slice A n c) (by kernel_rfl) rfl
      clear hk hd
      have HR := Lib.hid hR
      clear hR
      go_simp
      exact hK _ _ (Below.refl _ _) rfl
    · intro ra RW hR hk hd K hK
      obtain ⟨v16, e16, g16, f16⟩ := hd 0 16 (by kernel_rfl) rfl
      have f16 : v16 = .int .i64 k := f16
      subst f16
      obtain ⟨v17, e17, g17, f17⟩ := hd 1 17 (by kernel_rfl) rfl
      have f17 : v17 = .slice A n c := f17
      subst f17
      clear hk hd
      have HR := Lib.hid hR
      clear hR
      go_simp
      refine (HEN.out _ HR.out).mono ?_
      rintro e w2 ⟨v2, rfl, hb2, hc2⟩
      exact hK _ _ hb2 hc2
    · intro ra RW hR hk hd K hK
      obtain ⟨v18, e18, g18, f18⟩ := hd 2 18 (by kernel_rfl) rfl
      have F18 := Lib.hid f18
      clear f18
      clear hk hd
      have HR := Lib.hid hR
      clear hR
      go_simp
      rw [F18.out _ (Below.refl _ _)]
      go_simp
      exact hK _ _ (Below.refl _ _) rfl
    · intro ra RW hR hk hd K hK
      obtain ⟨e0, g0⟩ := hk 0 (.int .i64 k) (by kernel_rfl) rfl
      clear hk hd
      have HR := Lib.hid hR
      clear hR
      go_simp
      exact hK _ _ (Below.refl _ _) rfl
    · intro ra RW hR hk hd K hK
      obtain ⟨e1, g1⟩ := hk 1 (.slice A n c) (by kernel_rfl) rfl
      clear hk hd
      have HR := Lib.hid hR
      clear hR
      go_simp
      exact hK _ _ (Below.refl _ _) rfl
    · intro ra RW hR hk hd K hK
      obtain ⟨v20, e20, g20, f20⟩ := hd 4 20 (by kernel_rfl) rfl
      have f20 : v20 = .int .i64 k := f20
      subst f20
      obtain ⟨v21, e21, g21, f21⟩ := hd 5 21 (by kernel_rfl) rfl
      have f21 : v21 = .slice A n c := f21
      subst f21
      clear hk hd
      have HR := Lib.hid hR
      clear hR
      go_simp
      refine (HRE.out _ HR.out).mono ?_
      rintro e w2 ⟨rfl, hb2⟩
      exact hK _ _ hb2 rfl
    · intro ra RW hR hk hd K hK
      obtain ⟨v19, e19, g19, f19⟩ := hd 3 19 (by kernel_rfl) rfl
      have f19 : v19 = .string s := f19
      subst f19
      obtain ⟨v22, e22, g22, f22⟩ := hd 6 22 (by kernel_rfl) rfl
      have f22 : v22 = .string s := f22
      subst f22
      clear hk hd
      have HR := Lib.hid hR
      clear hR
      go_simp
      exact hK _ _ (Below.refl _ _) rfl
  intro vs RW hR hF
  have q0 : vs 0 = .int .i64 k := hF 0 (by decide)
  have q1 : vs 1 = .slice A n c := hF 1 (by decide)
  have F18 := Lib.hid (hF 2 (by decide))
  have q3 : vs 3 = .string s := hF 3 (by decide)
  have q4 : vs 4 = .int .i64 k := hF 4 (by decide)
  have q5 : vs 5 = .slice A n c := hF 5 (by decide)
  have q6 : vs 6 = .string s := hF 6 (by decide)
  have q7 : vs 7 = .bool false := hF 7 (by decide)
  simp only [setAll, List.setIfInBounds_toArray, List.set_cons_zero, List.set_cons_succ, q0, q1, q3, q4, q5, q6, q7]
  clear hF q0 q1 q3 q4 q5 q6 q7
  generalize vs 2 = v18 at *
  clear vs
  have HBR := Lib.hid (below_trans HBD.out hR)
  clear hR HEN HRE
  have HK2 := Lib.hid (fun W (hb : Below w.heap.size w W) => encode_any 2 rs A n c w.heap.size W (HA.out.below hb) (by omega) hb.size)
  have HK3 := Lib.hid (fun W (hb : Below w.heap.size w W) => encode_any 3 rs A n c w.heap.size W (HA.out.below hb) (by omega) hb.size)
  rw [HE2.out] at HK2
  rw [HE3.out] at HK3
  have hl2 := octsL_len 2 rfl us
  have hl3 := octsL_len 3 rfl us
  go_wp2_with fail
  refine (HK2.out _ HBR.out).mono ?_
  rintro e4 w4 ⟨v4, rfl, hn4⟩
  have HB4 := Lib.hid (below_trans HBR.out hn4.2.1)
  have HO4 := Lib.hid hn4.1
  obtain ⟨A4, c4, rfl, -, -⟩ := hn4.1.len_
  clear hn4
  go_wp2_with fail
  refine (HK3.out _ HB4.out).mono ?_
  rintro e5 w5 ⟨v5, rfl, hn5⟩
  have HB5 := Lib.hid (below_trans HB4.out hn5.2.1)
  have HO5 := Lib.hid hn5.1
  have HO45 := Lib.hid (HO4.out.below hn5.2.1 fun _ h => HO4.out.lt h)
  obtain ⟨A5, c5, rfl, -, -⟩ := hn5.1.len_
  clear hn5
  rw [hl2] at HO45 HO4
  rw [hl3] at HO5
  (try rw [hl2])
  (try rw [hl3])
  clear hl2 hl3 HK2 HK3
  obtain ⟨m, hm⟩ : ∃ m, us.length = m := ⟨_, rfl⟩
  rw [hm] at HO4 HO45 HO5 hul ⊢
  have HM := Lib.hid hm
  clear hm
  have hmod : (2 * (m : Int)).tmod 2 = 0 := by rw [Int.tmod_eq_emod_of_nonneg (by omega)]; omega
  go_wp2_with fail
  go_loopw [7] (fun iv wr => ∃ j q : Nat, j ≤ m ∧ iv = .int .i64 (2 * (j : Int)) ∧ wr = w5.drewN q) (fun iv _ => 2 * m - (intOf iv).toNat)
  case atStart => exact ⟨0, 0, by omega, rfl, rfl⟩
  case round =>
    obtain ⟨j, q, hj, rfl, rfl⟩ := hrel
    by_cases hlt : j < m
    · have j1 : 2 * (j : Int) < 2 * (m : Int) := by omega
      obtain ⟨g4, o4, cc4, e4, -, -, -, k4, -⟩ := HO45.out.form (by omega)
      obtain ⟨g5, o5, cc5, e5, -, -, -, k5, -⟩ := HO5.out.form (by omega)
      simp only [Value.slice.injEq] at e4 e5
      obtain ⟨rfl, -, rfl⟩ := e4
      obtain ⟨rfl, -, rfl⟩ := e5
      obtain ⟨u1, u2, u3, u4⟩ := HU.out j (by rw [HM.out]; exact hlt)
      have x1 := k4 (2 * j) (by omega)
      have x2 := k4 (2 * j + 1) (by omega)
      have y1 := k5 (2 * j) (by omega)
      have y2 := k5 (2 * j + 1) (by omega)
      rw [List.getElem?_map, u1] at x1
      rw [List.getElem?_map, u2] at x2
      rw [List.getElem?_map, u3] at y1
      rw [List.getElem?_map, u4] at y2
      simp only [Option.map_some, bV] at x1 x2 y1 y2
      clear k4 k5 u1 u2 u3 u4
      generalize (by_ (loU (us[j]'(by rw [HM.out]; exact hlt)))).toNat = lo at *
      generalize (by_ (hiU (us[j]'(by rw [HM.out]; exact hlt)))).toNat = up at *
      have z1 : 2 * (j : Int) + 1 < 2 * (m : Int) := by omega
      have z2 : (0 : Int) ≤ 2 * (j : Int) := by omega
      have z3 : (0 : Int) ≤ 2 * (j : Int) + 1 := by omega
      have z4 : (2 * (j : Int)).toNat = 2 * j := by omega
      have z5 : (2 * (j : Int) + 1).toNat = 2 * j + 1 := by omega
      go_wp2_with fail
      go_quiet (fail)
      go_wp2_with fail
      go_roundw
      case rel => exact ⟨j + 1, q + nq, by omega, by go_num, by simp⟩
      case measure => simp [intOf]; omega
    · have j1 : ¬ 2 * (j : Int) < 2 * (m : Int) := by omega
      have HBF := Lib.hid (below_drewN HB5.out q)
      go_wp2_with fail
      go_ret
      exact ⟨rfl, HBF.out⟩

set_option maxHeartbeats 2000000 in
theorem encodes_any (k : Int) (rs : List Int) (A : Option Addr) (n c : Nat) (w : World) (hA : Rd w w.heap.size 1 A n (rs.map iV)) :
    Calls Try.prog 3 #[.int .i64 k, .slice A n c] w fun e w' => e = .returned (.bool true) ∧ Below w.heap.size w w' := by
  by_cases h1 : n ≤ 40
  · exact encodes_small k rs A n c w hA h1
  · have i1 : (40 : Int) < (n : Int) := by omega
    clear hA
    go_enter Try.func3, Try.ntmps3
    go_wp2_with fail
    refine (awake_any _).mono ?_
    rintro e1 w1 ⟨rfl, hb1⟩
    have HB1 := Lib.hid hb1
    clear hb1
    go_wp2_with fail
    refine (awake_any _).mono ?_
    rintro e3 w3 ⟨rfl, hb3⟩
    have HB3 := Lib.hid (below_trans HB1.out hb3)
    clear hb3
    go_wp2_with fail
    go_ret
    exact ⟨rfl, HB3.out⟩
end Go.Proofs.Ytkibjjndeimikaa
