/-
  The contract of the decoder's units; no condition beyond those that each theorem states.
-/
import Derived.Test.YtoagjhhdijebmaaDec1
import Derived.Test.YtoagjhhdijebmaaTail
namespace Go.Proofs.Ytoagjhhdijebmaa
open Go.RowKit Go.Rb
attribute [local irreducible] Go.wpQuiet

theorem drewBelow {B : Nat} {w W : World} (h : Below B w.drew W) : Below B w W := ⟨h.os, h.tape, h.output, h.size, h.block⟩
set_option maxRecDepth 20000 in
set_option maxHeartbeats 8000000 in
theorem units_any_ {p : Nat} {s : DS} (all : Bool) (w : World) (h : Rep w p s) (h1 : ¬ s.kind = 1) (hne : s.held ≠ []) (hl : s.held.length ≤ 100000) :
    Calls Try.prog 27 #[pp p, .bool all] w fun e w' => e = .returned (.tuple #[.int .i64 (stepD s.kind all s.held).1, .int .i64 (stepD s.kind all s.held).2]) ∧ Below w.heap.size w w' := by
  obtain ⟨v, hb, hv⟩ := h
  obtain ⟨g, o, c, rfl, hc, hcm, -, -, -⟩ := hv.form (List.length_pos_iff.2 hne)
  have hpos := List.length_pos_iff.2 hne
  have HB : Hid (∀ W, Below w.drew.heap.size w.drew W → ∀ i, W.cell? ⟨p, i, none⟩ = _) := fun W hW i => (hb.below (drewBelow hW) hb.lt).cell i
  have hst : stepD s.kind all s.held = if unitsB s.kind (s.held.take 4) = [] then if all = true then (65533, (s.held.length : Int)) else (0, 0)
    else if (decide (55296 ≤ (unitsB s.kind (s.held.take 4)).headD 0) && decide ((unitsB s.kind (s.held.take 4)).headD 0 < 56320) && decide ((unitsB s.kind (s.held.take 4)).length = 1) && !all) = true then (0, 0)
    else ((joinP (unitsB s.kind (s.held.take 4))).1, 2 * (joinP (unitsB s.kind (s.held.take 4))).2) := by
    conv => lhs; unfold stepD
    rw [if_neg h1]
  obtain ⟨us, hus⟩ : ∃ us, unitsB s.kind (s.held.take 4) = us := ⟨_, rfl⟩
  rw [hus] at hst
  obtain ⟨m, hm⟩ : ∃ m, min s.held.length 4 = m := ⟨_, rfl⟩
  have htk : s.held.take 4 = s.held.take m := by
    rw [← hm]
    rcases Nat.le_total s.held.length 4 with h | h
    · rw [Nat.min_eq_left h, List.take_length, List.take_of_length_le h]
    · rw [Nat.min_eq_right h]
  have hml : m ≤ s.held.length := by omega
  have hrd : Rd w w.heap.size 1 (some ⟨g, o, none⟩) m ((s.held.take m).map bV) := by
    have := hv.rd.take_ hml
    rwa [Nat.mul_one, ← List.map_take] at this
  have HU : Hid (∀ W, Below w.drew.heap.size w.drew W → Calls Try.prog 35 #[.int .i64 s.kind, .slice (some ⟨g, o, none⟩) m c] W (RetNewI W us)) := fun W hW => by
    have := units_any s.kind (s.held.take m) (some ⟨g, o, none⟩) m c w.heap.size W (hrd.below (drewBelow hW)) (by omega) hW.size
    rwa [← htk, hus] at this
  have HMIN : Hid (min ((s.held.length : Nat) : Int) 4 = (m : Int)) := by show _ = _; omega
  have HCJ := Lib.hid (fun (W : World) A c (hr : Rd W W.heap.size 1 A us.length (us.map iV)) (hcc : us.length ≤ c) (hh : us.length ≤ 1000000) => codeJoin_any us A us.length c W.heap.size W hr hh hcc)
  unfold JoinTo at HCJ
  have hul : us.length ≤ 2 := by
    have h1 := unitsB_len s.kind (s.held.take 4)
    rw [hus] at h1
    have h2 : (s.held.take 4).length ≤ 4 := by rw [List.length_take]; omega
    omega
  have hb2 := fun (h : us ≠ []) => joinP_bd us h
  obtain ⟨J, hJ⟩ : ∃ J, joinP us = J := ⟨_, rfl⟩
  rw [hJ] at hst HCJ hb2
  obtain ⟨nu, hnu⟩ : ∃ nu, us.length = nu := ⟨_, rfl⟩
  have HNU := Lib.hid hnu
  rw [hnu] at hul hb2 HCJ
  clear hnu
  obtain ⟨X, hX⟩ : ∃ X, stepD s.kind all s.held = X := ⟨_, rfl⟩
  rw [hX] at hst ⊢
  have HX := Lib.hid hst
  clear hst hus htk hm hJ hb hv hne h1 hrd hX
  generalize s.held.length = n at *
  obtain ⟨kk, hkk⟩ : ∃ kk, s.kind = kk := ⟨_, rfl⟩
  rw [hkk] at HB HU
  clear hkk
  have i1 : (m : Int) ≤ (n : Int) := by omega
  have i2 : (m : Int) ≤ (c : Int) := by omega
  have i3 : (0 : Int) ≤ (m : Int) := by omega
  unfold pp
  go_enter Try.func27, Try.ntmps27
  go_wp2_with fail
  refine region_rows (by kernel_rfl) (fun W W' => Below W.heap.size W W')
    [.val (.pointer (some ⟨p, 0, none⟩)),
     .val (.pointer (some ⟨p, 0, none⟩)),
     .val (.pointer (some ⟨p, 0, none⟩)),
     .val (.int .i64 kk),
     .val (.pointer (some ⟨p, 0, none⟩)),
     .val (.pointer (some ⟨p, 0, none⟩)),
     .val (.pointer (some ⟨p, 2, none⟩)),
     .val (.slice (some ⟨g, o, none⟩) n c),
     .val (.pointer (some ⟨p, 0, none⟩)),
     .val (.pointer (some ⟨p, 0, none⟩)),
     .val (.pointer (some ⟨p, 2, none⟩)),
     .val (.slice (some ⟨g, o, none⟩) n c),
     .val (.int .i64 (n : Int)),
     .val (.int .i64 (m : Int)),
     .val (.slice (some ⟨g, o, none⟩) m c),
     ⟨fun v W => Own W 3 1 v nu (us.map iV), fun v W W' h hb => h.below hb (fun k hk => h.lt hk)⟩,
     ⟨fun v W => Own W 3 1 v nu (us.map iV), fun v W W' h hb => h.below hb (fun k hk => h.lt hk)⟩]
    (fun W => Below.refl _ W) (fun _ _ _ h k => below_trans h k) (by kernel_rfl) ?_ ?_
  · refine ⟨?_, ?_, ?_, ?_, ?_, ?_, ?_, ?_, ?_, ?_, ?_, ?_, ?_, ?_, ?_, ?_, ?_, trivial⟩
    · intro ra RW hR hk hd K hK
      obtain ⟨e0, g0⟩ := hk 0 (.pointer (some ⟨p, 0, none⟩)) (by kernel_rfl) rfl
      clear hk hd
      have HR := Lib.hid hR
      clear hR
      go_simp
      exact hK _ _ (Below.refl _ _) rfl
    · intro ra RW hR hk hd K hK
      obtain ⟨v10, e10, g10, f10⟩ := hd 0 10 (by kernel_rfl) rfl
      have f10 : v10 = .pointer (some ⟨p, 0, none⟩) := f10
      subst f10
      clear hk hd
      have HR := Lib.hid hR
      clear hR
      go_simp
      exact hK _ _ (Below.refl _ _) rfl
    · intro ra RW hR hk hd K hK
      obtain ⟨v11, e11, g11, f11⟩ := hd 1 11 (by kernel_rfl) rfl
      have f11 : v11 = .pointer (some ⟨p, 0, none⟩) := f11
      subst f11
      clear hk hd
      have HR := Lib.hid hR
      clear hR
      go_simp
      exact hK _ _ (Below.refl _ _) rfl
    · intro ra RW hR hk hd K hK
      obtain ⟨v12, e12, g12, f12⟩ := hd 2 12 (by kernel_rfl) rfl
      have f12 : v12 = .pointer (some ⟨p, 0, none⟩) := f12
      subst f12
      clear hk hd
      have HR := Lib.hid hR
      clear hR
      go_simp
      have dd := (HB.out _ HR.out) 0
      simp only [List.getElem?_toArray, List.getElem?_cons_zero, List.getElem?_cons_succ] at dd
      go_simp
      exact hK _ _ (Below.refl _ _) rfl
    · intro ra RW hR hk hd K hK
      obtain ⟨e0, g0⟩ := hk 0 (.pointer (some ⟨p, 0, none⟩)) (by kernel_rfl) rfl
      clear hk hd
      have HR := Lib.hid hR
      clear hR
      go_simp
      exact hK _ _ (Below.refl _ _) rfl
    · intro ra RW hR hk hd K hK
      obtain ⟨v14, e14, g14, f14⟩ := hd 4 14 (by kernel_rfl) rfl
      have f14 : v14 = .pointer (some ⟨p, 0, none⟩) := f14
      subst f14
      clear hk hd
      have HR := Lib.hid hR
      clear hR
      go_simp
      exact hK _ _ (Below.refl _ _) rfl
    · intro ra RW hR hk hd K hK
      obtain ⟨v15, e15, g15, f15⟩ := hd 5 15 (by kernel_rfl) rfl
      have f15 : v15 = .pointer (some ⟨p, 0, none⟩) := f15
      subst f15
      clear hk hd
      have HR := Lib.hid hR
      clear hR
      go_simp
      exact hK _ _ (Below.refl _ _) rfl
    · intro ra RW hR hk hd K hK
      obtain ⟨v16, e16, g16, f16⟩ := hd 6 16 (by kernel_rfl) rfl
      have f16 : v16 = .pointer (some ⟨p, 2, none⟩) := f16
      subst f16
      clear hk hd
      have HR := Lib.hid hR
      clear hR
      go_simp
      have dd := (HB.out _ HR.out) 2
      simp only [List.getElem?_toArray, List.getElem?_cons_zero, List.getElem?_cons_succ] at dd
      go_simp
      exact hK _ _ (Below.refl _ _) rfl
    · intro ra RW hR hk hd K hK
      obtain ⟨e0, g0⟩ := hk 0 (.pointer (some ⟨p, 0, none⟩)) (by kernel_rfl) rfl
      clear hk hd
      have HR := Lib.hid hR
      clear hR
      go_simp
      exact hK _ _ (Below.refl _ _) rfl
    · intro ra RW hR hk hd K hK
      obtain ⟨v18, e18, g18, f18⟩ := hd 8 18 (by kernel_rfl) rfl
      have f18 : v18 = .pointer (some ⟨p, 0, none⟩) := f18
      subst f18
      clear hk hd
      have HR := Lib.hid hR
      clear hR
      go_simp
      exact hK _ _ (Below.refl _ _) rfl
    · intro ra RW hR hk hd K hK
      obtain ⟨v19, e19, g19, f19⟩ := hd 9 19 (by kernel_rfl) rfl
      have f19 : v19 = .pointer (some ⟨p, 0, none⟩) := f19
      subst f19
      clear hk hd
      have HR := Lib.hid hR
      clear hR
      go_simp
      exact hK _ _ (Below.refl _ _) rfl
    · intro ra RW hR hk hd K hK
      obtain ⟨v20, e20, g20, f20⟩ := hd 10 20 (by kernel_rfl) rfl
      have f20 : v20 = .pointer (some ⟨p, 2, none⟩) := f20
      subst f20
      clear hk hd
      have HR := Lib.hid hR
      clear hR
      go_simp
      have dd := (HB.out _ HR.out) 2
      simp only [List.getElem?_toArray, List.getElem?_cons_zero, List.getElem?_cons_succ] at dd
      go_simp
      exact hK _ _ (Below.refl _ _) rfl
    · intro ra RW hR hk hd K hK
      obtain ⟨v21, e21, g21, f21⟩ := hd 11 21 (by kernel_rfl) rfl
      have f21 : v21 = .slice (some ⟨g, o, none⟩) n c := f21
      subst f21
      clear hk hd
      have HR := Lib.hid hR
      clear hR
      go_simp
      exact hK _ _ (Below.refl _ _) rfl
    · intro ra RW hR hk hd K hK
      obtain ⟨v22, e22, g22, f22⟩ := hd 12 22 (by kernel_rfl) rfl
      have f22 : v22 = .int .i64 (n : Int) := f22
      subst f22
      clear hk hd
      have HR := Lib.hid hR
      clear hR
      go_simp
      rw [HMIN.out]
      exact hK _ _ (Below.refl _ _) rfl
    · intro ra RW hR hk hd K hK
      obtain ⟨v17, e17, g17, f17⟩ := hd 7 17 (by kernel_rfl) rfl
      have f17 : v17 = .slice (some ⟨g, o, none⟩) n c := f17
      subst f17
      obtain ⟨v23, e23, g23, f23⟩ := hd 13 23 (by kernel_rfl) rfl
      have f23 : v23 = .int .i64 (m : Int) := f23
      subst f23
      clear hk hd
      have HR := Lib.hid hR
      clear hR
      go_simp
      exact hK _ _ (Below.refl _ _) rfl
    · intro ra RW hR hk hd K hK
      obtain ⟨v13, e13, g13, f13⟩ := hd 3 13 (by kernel_rfl) rfl
      have f13 : v13 = .int .i64 kk := f13
      subst f13
      obtain ⟨v24, e24, g24, f24⟩ := hd 14 24 (by kernel_rfl) rfl
      have f24 : v24 = .slice (some ⟨g, o, none⟩) m c := f24
      subst f24
      clear hk hd
      have HR := Lib.hid hR
      clear hR
      go_simp
      refine (HU.out _ HR.out).mono ?_
      rintro e w2 ⟨v, rfl, hown, hb2, -⟩
      exact hK _ _ hb2 (by show Own _ _ _ _ nu _; rw [← HNU.out]; exact hown)
    · intro ra RW hR hk hd K hK
      obtain ⟨v25, e25, g25, f25⟩ := hd 15 25 (by kernel_rfl) rfl
      have F25 := Lib.hid f25
      clear f25
      clear hk hd
      have HR := Lib.hid hR
      clear hR
      go_simp
      exact hK _ _ (Below.refl _ _) F25.out
  intro vs RW hR hF
  have q0 : vs 0 = .pointer (some ⟨p, 0, none⟩) := hF 0 (by decide)
  have q1 : vs 1 = .pointer (some ⟨p, 0, none⟩) := hF 1 (by decide)
  have q2 : vs 2 = .pointer (some ⟨p, 0, none⟩) := hF 2 (by decide)
  have q3 : vs 3 = .int .i64 kk := hF 3 (by decide)
  have q4 : vs 4 = .pointer (some ⟨p, 0, none⟩) := hF 4 (by decide)
  have q5 : vs 5 = .pointer (some ⟨p, 0, none⟩) := hF 5 (by decide)
  have q6 : vs 6 = .pointer (some ⟨p, 2, none⟩) := hF 6 (by decide)
  have q7 : vs 7 = .slice (some ⟨g, o, none⟩) n c := hF 7 (by decide)
  have q8 : vs 8 = .pointer (some ⟨p, 0, none⟩) := hF 8 (by decide)
  have q9 : vs 9 = .pointer (some ⟨p, 0, none⟩) := hF 9 (by decide)
  have q10 : vs 10 = .pointer (some ⟨p, 2, none⟩) := hF 10 (by decide)
  have q11 : vs 11 = .slice (some ⟨g, o, none⟩) n c := hF 11 (by decide)
  have q12 : vs 12 = .int .i64 (n : Int) := hF 12 (by decide)
  have q13 : vs 13 = .int .i64 (m : Int) := hF 13 (by decide)
  have q14 : vs 14 = .slice (some ⟨g, o, none⟩) m c := hF 14 (by decide)
  have F25 := Lib.hid (hF 15 (by decide))
  have F6 := Lib.hid (hF 16 (by decide))
  simp only [setAll, List.setIfInBounds_toArray, List.set_cons_zero, List.set_cons_succ, q0, q1, q2, q3, q4, q5, q6, q7, q8, q9, q10, q11, q12, q13, q14]
  clear hF q0 q1 q2 q3 q4 q5 q6 q7 q8 q9 q10 q11 q12 q13 q14
  generalize vs 15 = v25 at *
  generalize vs 16 = v6 at *
  clear vs

  have HBW := Lib.hid (drewBelow hR)
  have HB2 := Lib.hid (fun i => (HB.out RW hR i))
  clear hR HU HB F25
  obtain ⟨A6, c6, rfl, hc6, -⟩ := F6.out.len_
  have c2 := HB2.out 2
  simp only [List.getElem?_toArray, List.getElem?_cons_zero, List.getElem?_cons_succ] at c2
  have hf : ∀ i : Nat, i < nu → RW.cell? (⟨0, 0, none⟩ : Addr) = RW.cell? ⟨0, 0, none⟩ := fun _ _ => rfl
  clear hf
  rcases us with _ | ⟨u, r⟩
  · obtain rfl : nu = 0 := HNU.out.symm
    clear HCJ hb2 F6 HB2
    cases all with
    | true =>
      have HXL : Hid (X = (65533, (n : Int))) := by show X = _; rw [HX.out, if_pos rfl, if_pos rfl]
      go_wp2_with fail
      go_quiet (fail)
      go_wp2_with fail
      go_ret2
      exact ⟨by rw [HXL.out]; first | done | rfl, below_drewN HBW.out _⟩
    | false =>
      have HXL : Hid (X = (0, 0)) := by show X = _; rw [HX.out, if_pos rfl, if_neg (by decide)]
      go_wp2_with fail
      go_ret2
      exact ⟨by rw [HXL.out]; first | done | rfl, HBW.out⟩
  · have hx := HX.out
    rw [if_neg (by simp)] at hx
    have hj := hb2 (by simp)
    have hn1 : nu = r.length + 1 := HNU.out.symm
    obtain ⟨g6, o6, cc, hv, -, -, -, hcell, -⟩ := F6.out.form (by omega)
    simp only [Value.slice.injEq, true_and] at hv
    obtain ⟨rfl, rfl⟩ := hv
    have x0 := hcell 0 (by omega)
    simp only [List.map_cons, List.getElem?_cons_zero, iV, Nat.add_zero] at x0
    have hj2 := HCJ.out RW _ c6 F6.out.rd hc6 (by omega)
    obtain ⟨J1, J2⟩ := J
    have HJ := Lib.hid hj2
    have hJ2a : 1 ≤ J2 := hj.1
    have hJ2b : J2 ≤ 2 := hj.2.2
    have hxx : X = if (decide (55296 ≤ u) && decide (u < 56320) && decide (nu = 1) && !all) = true then (0, 0) else (J1, 2 * J2) := by rw [hx, ← HNU.out]; rfl
    have hnu1 : 1 ≤ nu := by omega
    clear hcell hj2 hb2 HCJ hj F6 HB2 hx HX HNU hn1 HMIN c2
    have hcs : (¬ 55296 ≤ u ∧ X = (J1, 2 * J2)) ∨ (55296 ≤ u ∧ ¬ u < 56320 ∧ X = (J1, 2 * J2)) ∨ (55296 ≤ u ∧ u < 56320 ∧ ¬ nu = 1 ∧ X = (J1, 2 * J2)) ∨ (55296 ≤ u ∧ u < 56320 ∧ nu = 1 ∧ all = true ∧ X = (J1, 2 * J2)) ∨ (55296 ≤ u ∧ u < 56320 ∧ nu = 1 ∧ all = false ∧ X = (0, 0)) := by
      by_cases a1 : 55296 ≤ u
      · by_cases a2 : u < 56320
        · by_cases a3 : nu = 1
          · cases all
            · simp [a1, a2, a3] at hxx; simp [a1, a2, a3, hxx]
            · simp [a1, a2, a3] at hxx; simp [a1, a2, a3, hxx]
          · simp [a1, a2, a3] at hxx; simp [a1, a2, a3, hxx]
        · simp [a1, a2] at hxx; simp [a1, a2, hxx]
      · simp [a1] at hxx; simp [a1, hxx]
    have hnz : ((nu : Int) == 0) = false := by rw [beq_eq_false_iff_ne]; omega
    clear hxx
    rcases hcs with ⟨a1, hX⟩ | ⟨a1, a2, hX⟩ | ⟨a1, a2, a3, hX⟩ | ⟨a1, a2, a3, a4, hX⟩ | ⟨a1, a2, a3, a4, hX⟩
    case' inr.inr.inl => have a5 : ((nu : Int) == 1) = false := by rw [beq_eq_false_iff_ne]; omega
    case' inr.inr.inr.inl =>
      subst a3
      subst a4
    case' inr.inr.inr.inr =>
      subst a3
      subst a4
    all_goals
      have HXL := Lib.hid hX
      clear hX
      go_wp2_with (go_at_call 36; refine HJ.out.mono ?_; rintro e1 w1 ⟨rfl, rfl⟩)
      go_ret2
      exact ⟨by rw [HXL.out]; first | done | rfl, HBW.out⟩
end Go.Proofs.Ytoagjhhdijebmaa
