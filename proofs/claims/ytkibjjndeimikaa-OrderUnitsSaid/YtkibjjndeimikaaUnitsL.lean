/-
  The law OrderUnits of reedbedlaw02 returns true; no condition beyond those that each theorem states.
-/
import Derived.Test.YtkibjjndeimikaaAwakeO
import Derived.Test.YtkibjjndeimikaaRegion
namespace Go.Proofs.Ytkibjjndeimikaa
open Go.RowKit Go.Rb
attribute [local irreducible] Go.wpQuiet

theorem by_toNat (c : UInt8) : by_ (c.toNat : Int) = c := by
  unfold by_
  rw [Int.toNat_natCast]
  exact UInt8.ofNat_toNat
theorem lohi (x y : UInt8) : loU ((x.toNat : Int) + 256 * (y.toNat : Int)) = (x.toNat : Int) ∧ hiU ((x.toNat : Int) + 256 * (y.toNat : Int)) = (y.toNat : Int) := by
  have h1 := x.toNat_lt
  have h2 := y.toNat_lt
  unfold loU hiU
  constructor <;> omega
theorem take2 {bs : List UInt8} {j : Nat} (h : 2 * j + 1 < bs.length) : bs.take (2 * (j + 1)) = bs.take (2 * j) ++ [bs.getD (2 * j) 0, bs.getD (2 * j + 1) 0] := by
  rw [show 2 * (j + 1) = 2 * j + 1 + 1 from by omega, List.take_add_one, List.take_add_one, List.getElem?_eq_getElem h, List.getElem?_eq_getElem (by omega), getD_at h, getD_at (show 2 * j < bs.length by omega), List.append_assoc]
  rfl
theorem there_back {k : Int} (hk : k = 2 ∨ k = 3) (bs : List UInt8) : ∀ j, 2 * j ≤ bs.length → octsL k (unK k bs j) = bs.take (2 * j)
  | 0, _ => by simp [unK, octsL]
  | j + 1, h => by
    rw [unK_succ, octsL_snoc, there_back hk bs j (by omega), take2 (by omega)]
    congr 1
    rcases hk with rfl | rfl
    · rw [unAt2]
      obtain ⟨h1, h2⟩ := lohi (bs.getD (2 * j) 0) (bs.getD (2 * j + 1) 0)
      unfold octL
      rw [if_pos rfl, h1, h2, by_toNat, by_toNat]
    · rw [unAt3]
      obtain ⟨h1, h2⟩ := lohi (bs.getD (2 * j + 1) 0) (bs.getD (2 * j) 0)
      unfold octL
      rw [if_neg (by decide), if_pos rfl, h1, h2, by_toNat, by_toNat]
theorem unitsB_len {k : Int} (hk : twoP k = true) (bs : List UInt8) : (unitsB k bs).length = bs.length / 2 := by
  unfold unitsB
  rw [if_pos hk, unK_len]
set_option maxRecDepth 20000 in
set_option maxHeartbeats 8000000 in
theorem ounits_small (k : Int) (b : List UInt8) (A : Option Addr) (n c : Nat) (us : List Int) (A2 : Option Addr) (n2 c2 : Nat) (w : World) (hA : Rd w w.heap.size 1 A n (b.map bV)) (hc : n ≤ c) (hA2 : Rd w w.heap.size 1 A2 n2 (us.map iV)) (hn : n ≤ 100) (hn2 : n2 ≤ 60) :
    Calls Try.prog 4 #[.int .i64 k, .slice A n c, .slice A2 n2 c2] w fun e w' => e = .returned (.bool true) ∧ Below w.heap.size w w' := by
  have HA := Lib.hid hA
  have HA2 := Lib.hid hA2
  have hl : b.length = n := by simpa using hA.1
  have hl2 : us.length = n2 := by simpa using hA2.1
  have HL := Lib.hid hl
  have HL2 := Lib.hid hl2
  have i1 : ¬ (100 : Int) < (n : Int) := by omega
  have i2 : ¬ (60 : Int) < (n2 : Int) := by omega
  have HKU := Lib.hid (fun W (hb : Below w.heap.size w W) => units_any k b A n c w.heap.size W (HA.out.below hb) (by omega) hb.size)
  have HKO := Lib.hid (fun W (hb : Below w.heap.size w W) => octets_any k us A2 n2 c2 w.heap.size W (HA2.out.below hb) (by omega) hb.size)
  have HRB := Lib.hid (fun W => rUnits_any k b W (by omega))
  have hzl : (unitsB k b).length ≤ 100 := by
    unfold unitsB
    split
    · rw [unK_len]; omega
    · simp
  have HP : Hid (twoP k = true → octsL k (unitsB k b) = b.take (2 * (n / 2)) ∧ (unitsB k b).length = n / 2 ∧ (octsL k us).length = 2 * n2) := fun ht => by
    have hk : k = 2 ∨ k = 3 := by unfold twoP at ht; simpa using ht
    refine ⟨?_, by rw [unitsB_len ht, hl], by rw [octsL_len k ht, hl2]⟩
    unfold unitsB
    rw [if_pos ht, there_back hk b _ (by omega), hl]
  have HP0 : Hid (twoP k = false → unitsB k b = [] ∧ octsL k us = []) := fun ht => ⟨by unfold unitsB; rw [ht]; rfl, octsL_none k ht us⟩
  obtain ⟨zs, hzs⟩ : ∃ zs, unitsB k b = zs := ⟨_, rfl⟩
  obtain ⟨os, hos⟩ : ∃ os, octsL k us = os := ⟨_, rfl⟩
  rw [hzs] at HKU HRB hzl HP HP0
  rw [hos] at HKO HP HP0
  have HOS := Lib.hid hos
  obtain ⟨s, hs⟩ : ∃ s : ByteArray, (⟨b.toArray⟩ : ByteArray) = s := ⟨_, rfl⟩
  obtain ⟨so, hso⟩ : ∃ s : ByteArray, (⟨os.toArray⟩ : ByteArray) = s := ⟨_, rfl⟩
  have HS := Lib.hid hs
  have HSO := Lib.hid hso
  rw [hs] at HRB
  clear hA hA2 hl hl2 hzs hos hs hso
  go_enter Try.func4, Try.ntmps4
  go_wp2_with fail
  refine (awake_any _).mono ?_
  rintro e1 w1 ⟨rfl, hb1⟩
  have HB1 := Lib.hid hb1
  clear hb1
  go_wp2_with fail
  refine (HKU.out _ HB1.out).mono ?_
  rintro e2 w2 ⟨v2, rfl, hn2⟩
  have HB2 := Lib.hid (below_trans HB1.out hn2.2.1)
  have HO2 := Lib.hid hn2.1
  obtain ⟨A7, c7, rfl, -, -⟩ := hn2.1.len_
  clear hn2
  go_wp2_with fail
  refine (HKO.out _ HB2.out).mono ?_
  rintro e3 w3 ⟨v3, rfl, hn3⟩
  have HB3 := Lib.hid (below_trans HB2.out hn3.2.1)
  have HO3 := Lib.hid hn3.1
  have HO23 := Lib.hid (HO2.out.below hn3.2.1 fun _ h => HO2.out.lt h)
  obtain ⟨A8, c8, rfl, -, -⟩ := hn3.1.len_
  clear hn3
  obtain ⟨L8, hL8⟩ : ∃ L8, os.length = L8 := ⟨_, rfl⟩
  rw [hL8] at HO3 ⊢
  have HL8 := Lib.hid hL8
  clear hL8
  go_wp2_with fail
  have HBD : Hid (Below w.heap.size w w3.drew) := below_drewN HB3.out 1
  have HCB : Hid (∀ W, Below w3.drew.heap.size w3.drew W → (convert 24 9 (.slice A n c)).run Try.prog W = .ok (.string s) W) := fun W hW => by rw [← HS.out]; exact conv_rd (HA.out.below (below_trans HBD.out hW))
  have HRU : Hid (∀ W, Calls Try.prog 13 #[.int .i64 k, .string s] W (RetNewI W zs)) := HRB.out
  have HII : Hid (∀ W, Below w3.drew.heap.size w3.drew W → ∀ A9 c9, Rd W W.heap.size 1 A9 zs.length (zs.map iV) → Calls Try.prog 12 #[.slice A7 zs.length c7, .slice A9 zs.length c9] W fun e w' => e = .returned (.bool true) ∧ ∃ q, w' = W.drewN q) := fun W hW A9 c9 h9 => by
    have := ints_any A7 A9 zs.length zs.length c7 c9 zs zs W W.heap.size W.heap.size ((HO23.out.drew.below hW fun _ h => HO23.out.lt h).rd) h9 (by omega) (by omega)
    rw [decide_eq_true rfl] at this
    exact this
  have HCO : Hid (∀ W, Below w3.drew.heap.size w3.drew W → (convert 24 9 (.slice A8 L8 c8)).run Try.prog W = .ok (.string so) W) := fun W hW => by rw [← HSO.out]; exact conv_own (HO3.out.drew.below hW fun _ h => HO3.out.lt h)
  have HRO : Hid (∀ W, Below w3.drew.heap.size w3.drew W → Calls Try.prog 14 #[.int .i64 k, .slice A2 n2 c2] W fun e w' => e = .returned (.string so) ∧ Below W.heap.size W w') := fun W hW => by
    have := rOctets_any k us A2 n2 c2 w.heap.size W (HA2.out.below (below_trans HBD.out hW)) (by omega) (Nat.le_trans HBD.out.size hW.size)
    refine this.mono fun e w' ⟨he, hb⟩ => ⟨?_, hb⟩
    rw [he, HOS.out, ← HSO.out]
    rfl
  refine region_rows (by kernel_rfl) (fun W W' => Below W.heap.size W W')
    [.val (.slice A7 zs.length c7),
     .val (.int .i64 k),
     .val (.slice A n c),
     .val (.string s),
     ⟨fun v W => Own W 3 1 v zs.length (zs.map iV), fun _ _ _ h hR => h.below hR fun _ hk => h.lt hk⟩,
     .val (.bool true),
     .val (.bool false),
     .val (.bool false),
     .val (.slice A8 L8 c8),
     .val (.string so),
     .val (.int .i64 k),
     .val (.slice A2 n2 c2),
     .val (.string so),
     .val (.bool false),
     .val (.bool false)]
    (fun W => Below.refl _ W) (fun _ _ _ h k => below_trans h k) (by kernel_rfl) ?_ ?_
  · refine ⟨?_, ?_, ?_, ?_, ?_, ?_, ?_, ?_, ?_, ?_, ?_, ?_, ?_, ?_, ?_, trivial⟩
    · intro ra RW hR hk hd K hK
      obtain ⟨e7, g7⟩ := hk 7 (.slice A7 zs.length c7) (by kernel_rfl) rfl
      clear hk hd
      have HR := Lib.hid hR
      clear hR
      go_simp
      exact hK _ _ (Below.refl _ _) rfl
    · intro ra RW hR hk hd K hK
      obtain ⟨e0, g0⟩ := hk 0 (.int .i64 k) (by kernel_rfl) rfl
      clear hk hd
      have HR := Lib.hid hR
      clear hR
      go_simp
      exact hK _ _ (Below.refl _ _) rfl
    · intro ra RW hR hk hd K hK
      obtain ⟨e1, g1⟩ := hk 1 (.slice A n c) (by kernel_rfl) rfl
      clear hk hd
      have HR := Lib.hid hR
      clear hR
      go_simp
      exact hK _ _ (Below.refl _ _) rfl
    · intro ra RW hR hk hd K hK
      obtain ⟨v30, e30, g30, f30⟩ := hd 2 30 (by kernel_rfl) rfl
      have f30 : v30 = .slice A n c := f30
      subst f30
      clear hk hd
      have HR := Lib.hid hR
      clear hR
      go_simp
      rw [HCB.out _ HR.out]
      go_simp
      exact hK _ _ (Below.refl _ _) rfl
    · intro ra RW hR hk hd K hK
      obtain ⟨v29, e29, g29, f29⟩ := hd 1 29 (by kernel_rfl) rfl
      have f29 : v29 = .int .i64 k := f29
      subst f29
      obtain ⟨v31, e31, g31, f31⟩ := hd 3 31 (by kernel_rfl) rfl
      have f31 : v31 = .string s := f31
      subst f31
      clear hk hd
      have HR := Lib.hid hR
      clear hR
      go_simp
      refine (HRU.out _).mono ?_
      rintro e w2 ⟨v2, rfl, hn2⟩
      exact hK _ _ hn2.2.1 hn2.1
    · intro ra RW hR hk hd K hK
      obtain ⟨v28, e28, g28, f28⟩ := hd 0 28 (by kernel_rfl) rfl
      have f28 : v28 = .slice A7 zs.length c7 := f28
      subst f28
      obtain ⟨v32, e32, g32, f32⟩ := hd 4 32 (by kernel_rfl) rfl
      have F32 := Lib.hid f32
      clear f32
      clear hk hd
      have HR := Lib.hid hR
      clear hR
      go_simp
      obtain ⟨A32, c32, rfl, -, -⟩ := F32.out.len_
      refine (HII.out _ HR.out A32 c32 F32.out.rd).mono ?_
      rintro e w2 ⟨rfl, q2, rfl⟩
      exact hK _ _ (below_drewN (Below.refl _ _) q2) rfl
    · intro ra RW hR hk hd K hK
      obtain ⟨v33, e33, g33, f33⟩ := hd 5 33 (by kernel_rfl) rfl
      have f33 : v33 = .bool true := f33
      subst f33
      clear hk hd
      have HR := Lib.hid hR
      clear hR
      go_simp
      exact hK _ _ (Below.refl _ _) rfl
    · intro ra RW hR hk hd K hK
      obtain ⟨v34, e34, g34, f34⟩ := hd 6 34 (by kernel_rfl) rfl
      have f34 : v34 = .bool false := f34
      subst f34
      clear hk hd
      have HR := Lib.hid hR
      clear hR
      go_simp
      exact hK _ _ (Below.refl _ _) rfl
    · intro ra RW hR hk hd K hK
      obtain ⟨e8, g8⟩ := hk 8 (.slice A8 L8 c8) (by kernel_rfl) rfl
      obtain ⟨v35, e35, g35, f35⟩ := hd 7 35 (by kernel_rfl) rfl
      have f35 : v35 = .bool false := f35
      subst f35
      clear hk hd
      have HR := Lib.hid hR
      clear hR
      go_simp
      exact hK _ _ (Below.refl _ _) rfl
    · intro ra RW hR hk hd K hK
      obtain ⟨v36, e36, g36, f36⟩ := hd 8 36 (by kernel_rfl) rfl
      have f36 : v36 = .slice A8 L8 c8 := f36
      subst f36
      obtain ⟨v35, e35, g35, f35⟩ := hd 7 35 (by kernel_rfl) rfl
      have f35 : v35 = .bool false := f35
      subst f35
      clear hk hd
      have HR := Lib.hid hR
      clear hR
      go_simp
      rw [HCO.out _ HR.out]
      go_simp
      exact hK _ _ (Below.refl _ _) rfl
    · intro ra RW hR hk hd K hK
      obtain ⟨e0, g0⟩ := hk 0 (.int .i64 k) (by kernel_rfl) rfl
      obtain ⟨v35, e35, g35, f35⟩ := hd 7 35 (by kernel_rfl) rfl
      have f35 : v35 = .bool false := f35
      subst f35
      clear hk hd
      have HR := Lib.hid hR
      clear hR
      go_simp
      exact hK _ _ (Below.refl _ _) rfl
    · intro ra RW hR hk hd K hK
      obtain ⟨e2, g2⟩ := hk 2 (.slice A2 n2 c2) (by kernel_rfl) rfl
      obtain ⟨v35, e35, g35, f35⟩ := hd 7 35 (by kernel_rfl) rfl
      have f35 : v35 = .bool false := f35
      subst f35
      clear hk hd
      have HR := Lib.hid hR
      clear hR
      go_simp
      exact hK _ _ (Below.refl _ _) rfl
    · intro ra RW hR hk hd K hK
      obtain ⟨v38, e38, g38, f38⟩ := hd 10 38 (by kernel_rfl) rfl
      have f38 : v38 = .int .i64 k := f38
      subst f38
      obtain ⟨v39, e39, g39, f39⟩ := hd 11 39 (by kernel_rfl) rfl
      have f39 : v39 = .slice A2 n2 c2 := f39
      subst f39
      obtain ⟨v35, e35, g35, f35⟩ := hd 7 35 (by kernel_rfl) rfl
      have f35 : v35 = .bool false := f35
      subst f35
      clear hk hd
      have HR := Lib.hid hR
      clear hR
      go_simp
      refine (HRO.out _ HR.out).mono ?_
      rintro e w2 ⟨rfl, hb2⟩
      exact hK _ _ hb2 rfl
    · intro ra RW hR hk hd K hK
      obtain ⟨v37, e37, g37, f37⟩ := hd 9 37 (by kernel_rfl) rfl
      have f37 : v37 = .string so := f37
      subst f37
      obtain ⟨v40, e40, g40, f40⟩ := hd 12 40 (by kernel_rfl) rfl
      have f40 : v40 = .string so := f40
      subst f40
      obtain ⟨v35, e35, g35, f35⟩ := hd 7 35 (by kernel_rfl) rfl
      have f35 : v35 = .bool false := f35
      subst f35
      clear hk hd
      have HR := Lib.hid hR
      clear hR
      go_simp
      exact hK _ _ (Below.refl _ _) rfl
    · intro ra RW hR hk hd K hK
      obtain ⟨v35, e35, g35, f35⟩ := hd 7 35 (by kernel_rfl) rfl
      have f35 : v35 = .bool false := f35
      subst f35
      obtain ⟨v41, e41, g41, f41⟩ := hd 13 41 (by kernel_rfl) rfl
      have f41 : v41 = .bool false := f41
      subst f41
      clear hk hd
      have HR := Lib.hid hR
      clear hR
      go_simp
      exact hK _ _ (Below.refl _ _) rfl
  intro vs RW hR hF
  have q0 : vs 0 = .slice A7 zs.length c7 := hF 0 (by decide)
  have q1 : vs 1 = .int .i64 k := hF 1 (by decide)
  have q2 : vs 2 = .slice A n c := hF 2 (by decide)
  have q3 : vs 3 = .string s := hF 3 (by decide)
  have F32 := Lib.hid (hF 4 (by decide))
  have q5 : vs 5 = .bool true := hF 5 (by decide)
  have q6 : vs 6 = .bool false := hF 6 (by decide)
  have q7 : vs 7 = .bool false := hF 7 (by decide)
  have q8 : vs 8 = .slice A8 L8 c8 := hF 8 (by decide)
  have q9 : vs 9 = .string so := hF 9 (by decide)
  have q10 : vs 10 = .int .i64 k := hF 10 (by decide)
  have q11 : vs 11 = .slice A2 n2 c2 := hF 11 (by decide)
  have q12 : vs 12 = .string so := hF 12 (by decide)
  have q13 : vs 13 = .bool false := hF 13 (by decide)
  have q14 : vs 14 = .bool false := hF 14 (by decide)
  simp only [setAll, List.setIfInBounds_toArray, List.set_cons_zero, List.set_cons_succ, q0, q1, q2, q3, q5, q6, q7, q8, q9, q10, q11, q12, q13, q14]
  clear hF q0 q1 q2 q3 q5 q6 q7 q8 q9 q10 q11 q12 q13 q14
  generalize vs 4 = v32 at *
  clear vs
  have HBR := Lib.hid (below_trans HBD.out hR)
  have HO7 := Lib.hid (HO23.out.drew.below hR fun _ h => HO23.out.lt h)
  have HO8 := Lib.hid (HO3.out.drew.below hR fun _ h => HO3.out.lt h)
  clear hR HCB HRU HII HCO HRO F32
  cases ht : twoP k with
  | false =>
    obtain ⟨rfl, rfl⟩ := HP0.out ht
    have e8 : L8 = 0 := by rw [← HL8.out]; rfl
    subst e8
    have h2 : ¬ k = 2 := by unfold twoP at ht; simp at ht; exact ht.1
    have h3 : ¬ k = 3 := by unfold twoP at ht; simp at ht; exact ht.2
    have q2 : (k != 2) = true := by rw [bne_iff_ne]; exact h2
    have q3 : (k != 3) = true := by rw [bne_iff_ne]; exact h3
    go_wp2_with fail
    go_ret
    exact ⟨rfl, HBR.out⟩
  | true =>
    obtain ⟨p1, p2, p3⟩ := HP.out ht
    have E8 : Hid (L8 = 2 * n2) := (by rw [← HL8.out]; exact p3 : L8 = 2 * n2)
    have hk : k = 2 ∨ k = 3 := by unfold twoP at ht; simpa using ht
    have HTW := Lib.hid ht
    obtain ⟨st, hst⟩ : ∃ s : ByteArray, (⟨(b.take (2 * (n / 2))).toArray⟩ : ByteArray) = s := ⟨_, rfl⟩
    have HST := Lib.hid hst
    have HP1 := Lib.hid p1
    obtain ⟨m, hm⟩ : ∃ m, n / 2 = m := ⟨_, rfl⟩
    obtain ⟨m2, hm2⟩ : ∃ m2, 2 * m = m2 := ⟨_, rfl⟩
    rw [hm, hm2] at HST HP1
    have hm2n : m2 ≤ n := by omega
    have HM1 : Hid ((n : Int).tdiv 2 = (m : Int)) := (by rw [Int.tdiv_eq_ediv_of_nonneg (by omega)]; omega : (n : Int).tdiv 2 = (m : Int))
    have HM2 : Hid ((m : Int) * 2 = (m2 : Int)) := (by omega : (m : Int) * 2 = (m2 : Int))
    have hm1 := HM1.out
    have hm3 := HM2.out
    have hm4 : (m2 : Int) ≤ (c : Int) := by omega
    have hm6 : IntKind.i64.wrap (m : Int) = (m : Int) := by rw [IntKind.wrap_i64]; omega
    have hm7 : IntKind.i64.wrap (m2 : Int) = (m2 : Int) := by rw [IntKind.wrap_i64]; omega
    have hm5 : m2 ≤ c := by omega
    clear p1 p2 p3 hm2 hst ht
    rcases hk with rfl | rfl
    · have HBE : Hid (Below w.heap.size w RW.drew) := below_drewN HBR.out 1
      have HOO : Hid (∀ W, Below RW.drew.heap.size RW.drew W → Calls Try.prog 11 #[.int .i64 2, .slice A7 zs.length c7] W fun e w' => ∃ v, e = .returned v ∧ Below W.heap.size W w' ∧ ∀ W2, Below w'.heap.size w' W2 → (convert 24 9 v).run Try.prog W2 = .ok (.string st) W2) := fun W hW =>
        (octets_any 2 zs A7 zs.length c7 W.heap.size W ((HO7.out.drew.below hW fun _ h => HO7.out.lt h).rd) (by omega) (Nat.le_refl _)).mono fun e w' ⟨v, he, hn⟩ => ⟨v, he, hn.2.1, fun W2 hb => by rw [← HST.out, ← HP1.out]; exact conv_own (hn.1.below hb fun _ h => hn.1.lt h)⟩
      have HCT : Hid (∀ W, Below RW.drew.heap.size RW.drew W → (convert 24 9 (.slice A m2 c)).run Try.prog W = .ok (.string st) W) := fun W hW => by
        have := (HA.out.below (below_trans HBE.out hW)).take_ hm2n
        rw [Nat.mul_one, ← List.map_take] at this
        rw [← HST.out]
        exact conv_rd this
      have HUO : Hid (∀ W, Below RW.drew.heap.size RW.drew W → Calls Try.prog 10 #[.int .i64 2, .slice A8 L8 c8] W fun e w' => ∃ v, e = .returned v ∧ Below W.heap.size W w' ∧ ∃ A9 c9, v = .slice A9 n2 c9) := fun W hW => by
        have h8 := HO8.out.drew.below hW fun _ h => HO8.out.lt h
        refine (units_any 2 os A8 L8 c8 W.heap.size W h8.rd (by have := E8.out; omega) (Nat.le_refl _)).mono fun e w' ⟨v, he, hn⟩ => ?_
        obtain ⟨A9, c9, hv, -, -⟩ := hn.1.len_
        rw [unitsB_len rfl, HL8.out, E8.out, show 2 * n2 / 2 = n2 from by omega] at hv
        exact ⟨v, he, hn.2.1, A9, c9, hv⟩
      go_wp2_with fail
      refine region_rows (by kernel_rfl) (fun W W' => Below W.heap.size W W')
        [.val (.int .i64 2),
         .val (.slice A7 zs.length c7),
         ⟨fun v W => ∀ W2, Below W.heap.size W W2 → (convert 24 9 v).run Try.prog W2 = .ok (.string st) W2, fun _ _ _ h hR _ hb => h _ (below_trans hR hb)⟩,
         .val (.string st),
         .val (.slice A n c),
         .val (.slice A n c),
         .val (.int .i64 (n : Int)),
         .val (.int .i64 (m : Int)),
         .val (.int .i64 (m2 : Int)),
         .val (.slice A m2 c),
         .val (.string st),
         .val (.bool true),
         .val (.bool true),
         .val (.int .i64 2),
         .val (.slice A8 L8 c8),
         ⟨fun v _ => ∃ A9 c9, v = .slice A9 n2 c9, fun _ _ _ h _ => h⟩,
         .val (.int .i64 (n2 : Int)),
         .val (.slice A2 n2 c2),
         .val (.int .i64 (n2 : Int)),
         .val (.bool true),
         .val (.bool true),
         .val (.bool true)]
        (fun W => Below.refl _ W) (fun _ _ _ h k => below_trans h k) (by kernel_rfl) ?_ ?_
      · refine ⟨?_, ?_, ?_, ?_, ?_, ?_, ?_, ?_, ?_, ?_, ?_, ?_, ?_, ?_, ?_, ?_, ?_, ?_, ?_, ?_, ?_, ?_, trivial⟩
        · intro ra RW hR hk hd K hK
          obtain ⟨e0, g0⟩ := hk 0 (.int .i64 2) (by kernel_rfl) rfl
          clear hk hd
          have HR := Lib.hid hR
          clear hR
          go_simp
          exact hK _ _ (Below.refl _ _) rfl
        · intro ra RW hR hk hd K hK
          obtain ⟨e7, g7⟩ := hk 7 (.slice A7 zs.length c7) (by kernel_rfl) rfl
          clear hk hd
          have HR := Lib.hid hR
          clear hR
          go_simp
          exact hK _ _ (Below.refl _ _) rfl
        · intro ra RW hR hk hd K hK
          obtain ⟨v57, e57, g57, f57⟩ := hd 0 57 (by kernel_rfl) rfl
          have f57 : v57 = .int .i64 2 := f57
          subst f57
          obtain ⟨v58, e58, g58, f58⟩ := hd 1 58 (by kernel_rfl) rfl
          have f58 : v58 = .slice A7 zs.length c7 := f58
          subst f58
          clear hk hd
          have HR := Lib.hid hR
          clear hR
          go_simp
          refine (HOO.out _ HR.out).mono ?_
          rintro e w2 ⟨v2, rfl, hb2, hc2⟩
          exact hK _ _ hb2 hc2
        · intro ra RW hR hk hd K hK
          obtain ⟨v59, e59, g59, f59⟩ := hd 2 59 (by kernel_rfl) rfl
          have F59 := Lib.hid f59
          clear f59
          clear hk hd
          have HR := Lib.hid hR
          clear hR
          go_simp
          rw [F59.out _ (Below.refl _ _)]
          go_simp
          exact hK _ _ (Below.refl _ _) rfl
        · intro ra RW hR hk hd K hK
          obtain ⟨e1, g1⟩ := hk 1 (.slice A n c) (by kernel_rfl) rfl
          clear hk hd
          have HR := Lib.hid hR
          clear hR
          go_simp
          exact hK _ _ (Below.refl _ _) rfl
        · intro ra RW hR hk hd K hK
          obtain ⟨e1, g1⟩ := hk 1 (.slice A n c) (by kernel_rfl) rfl
          clear hk hd
          have HR := Lib.hid hR
          clear hR
          go_simp
          exact hK _ _ (Below.refl _ _) rfl
        · intro ra RW hR hk hd K hK
          obtain ⟨v62, e62, g62, f62⟩ := hd 5 62 (by kernel_rfl) rfl
          have f62 : v62 = .slice A n c := f62
          subst f62
          clear hk hd
          have HR := Lib.hid hR
          clear hR
          go_simp
          exact hK _ _ (Below.refl _ _) rfl
        · intro ra RW hR hk hd K hK
          obtain ⟨v63, e63, g63, f63⟩ := hd 6 63 (by kernel_rfl) rfl
          have f63 : v63 = .int .i64 (n : Int) := f63
          subst f63
          clear hk hd
          have HR := Lib.hid hR
          clear hR
          go_simp
          exact hK _ _ (Below.refl _ _) rfl
        · intro ra RW hR hk hd K hK
          obtain ⟨v64, e64, g64, f64⟩ := hd 7 64 (by kernel_rfl) rfl
          have f64 : v64 = .int .i64 (m : Int) := f64
          subst f64
          clear hk hd
          have HR := Lib.hid hR
          clear hR
          go_simp
          exact hK _ _ (Below.refl _ _) rfl
        · intro ra RW hR hk hd K hK
          obtain ⟨v61, e61, g61, f61⟩ := hd 4 61 (by kernel_rfl) rfl
          have f61 : v61 = .slice A n c := f61
          subst f61
          obtain ⟨v65, e65, g65, f65⟩ := hd 8 65 (by kernel_rfl) rfl
          have f65 : v65 = .int .i64 (m2 : Int) := f65
          subst f65
          clear hk hd
          have HR := Lib.hid hR
          clear hR
          go_simp
          exact hK _ _ (Below.refl _ _) rfl
        · intro ra RW hR hk hd K hK
          obtain ⟨v66, e66, g66, f66⟩ := hd 9 66 (by kernel_rfl) rfl
          have f66 : v66 = .slice A m2 c := f66
          subst f66
          clear hk hd
          have HR := Lib.hid hR
          clear hR
          go_simp
          rw [HCT.out _ HR.out]
          go_simp
          exact hK _ _ (Below.refl _ _) rfl
        · intro ra RW hR hk hd K hK
          obtain ⟨v60, e60, g60, f60⟩ := hd 3 60 (by kernel_rfl) rfl
          have f60 : v60 = .string st := f60
          subst f60
          obtain ⟨v67, e67, g67, f67⟩ := hd 10 67 (by kernel_rfl) rfl
          have f67 : v67 = .string st := f67
          subst f67
          clear hk hd
          have HR := Lib.hid hR
          clear hR
          go_simp
          exact hK _ _ (Below.refl _ _) rfl
        · intro ra RW hR hk hd K hK
          obtain ⟨v68, e68, g68, f68⟩ := hd 11 68 (by kernel_rfl) rfl
          have f68 : v68 = .bool true := f68
          subst f68
          clear hk hd
          have HR := Lib.hid hR
          clear hR
          go_simp
          exact hK _ _ (Below.refl _ _) rfl
        · intro ra RW hR hk hd K hK
          obtain ⟨e0, g0⟩ := hk 0 (.int .i64 2) (by kernel_rfl) rfl
          obtain ⟨v69, e69, g69, f69⟩ := hd 12 69 (by kernel_rfl) rfl
          have f69 : v69 = .bool true := f69
          subst f69
          clear hk hd
          have HR := Lib.hid hR
          clear hR
          go_simp
          exact hK _ _ (Below.refl _ _) rfl
        · intro ra RW hR hk hd K hK
          obtain ⟨e8, g8⟩ := hk 8 (.slice A8 L8 c8) (by kernel_rfl) rfl
          obtain ⟨v69, e69, g69, f69⟩ := hd 12 69 (by kernel_rfl) rfl
          have f69 : v69 = .bool true := f69
          subst f69
          clear hk hd
          have HR := Lib.hid hR
          clear hR
          go_simp
          exact hK _ _ (Below.refl _ _) rfl
        · intro ra RW hR hk hd K hK
          obtain ⟨v70, e70, g70, f70⟩ := hd 13 70 (by kernel_rfl) rfl
          have f70 : v70 = .int .i64 2 := f70
          subst f70
          obtain ⟨v71, e71, g71, f71⟩ := hd 14 71 (by kernel_rfl) rfl
          have f71 : v71 = .slice A8 L8 c8 := f71
          subst f71
          obtain ⟨v69, e69, g69, f69⟩ := hd 12 69 (by kernel_rfl) rfl
          have f69 : v69 = .bool true := f69
          subst f69
          clear hk hd
          have HR := Lib.hid hR
          clear hR
          go_simp
          refine (HUO.out _ HR.out).mono ?_
          rintro e w2 ⟨v2, rfl, hb2, hc2⟩
          exact hK _ _ hb2 hc2
        · intro ra RW hR hk hd K hK
          obtain ⟨v72, e72, g72, f72⟩ := hd 15 72 (by kernel_rfl) rfl
          have F72 := Lib.hid f72
          clear f72
          obtain ⟨v69, e69, g69, f69⟩ := hd 12 69 (by kernel_rfl) rfl
          have f69 : v69 = .bool true := f69
          subst f69
          clear hk hd
          have HR := Lib.hid hR
          clear hR
          go_simp
          obtain ⟨A9, c9, rfl⟩ := F72.out
          go_simp
          exact hK _ _ (Below.refl _ _) rfl
        · intro ra RW hR hk hd K hK
          obtain ⟨e2, g2⟩ := hk 2 (.slice A2 n2 c2) (by kernel_rfl) rfl
          obtain ⟨v69, e69, g69, f69⟩ := hd 12 69 (by kernel_rfl) rfl
          have f69 : v69 = .bool true := f69
          subst f69
          clear hk hd
          have HR := Lib.hid hR
          clear hR
          go_simp
          exact hK _ _ (Below.refl _ _) rfl
        · intro ra RW hR hk hd K hK
          obtain ⟨v74, e74, g74, f74⟩ := hd 17 74 (by kernel_rfl) rfl
          have f74 : v74 = .slice A2 n2 c2 := f74
          subst f74
          obtain ⟨v69, e69, g69, f69⟩ := hd 12 69 (by kernel_rfl) rfl
          have f69 : v69 = .bool true := f69
          subst f69
          clear hk hd
          have HR := Lib.hid hR
          clear hR
          go_simp
          exact hK _ _ (Below.refl _ _) rfl
        · intro ra RW hR hk hd K hK
          obtain ⟨v73, e73, g73, f73⟩ := hd 16 73 (by kernel_rfl) rfl
          have f73 : v73 = .int .i64 (n2 : Int) := f73
          subst f73
          obtain ⟨v75, e75, g75, f75⟩ := hd 18 75 (by kernel_rfl) rfl
          have f75 : v75 = .int .i64 (n2 : Int) := f75
          subst f75
          obtain ⟨v69, e69, g69, f69⟩ := hd 12 69 (by kernel_rfl) rfl
          have f69 : v69 = .bool true := f69
          subst f69
          clear hk hd
          have HR := Lib.hid hR
          clear hR
          go_simp
          exact hK _ _ (Below.refl _ _) rfl
        · intro ra RW hR hk hd K hK
          obtain ⟨v69, e69, g69, f69⟩ := hd 12 69 (by kernel_rfl) rfl
          have f69 : v69 = .bool true := f69
          subst f69
          obtain ⟨v76, e76, g76, f76⟩ := hd 19 76 (by kernel_rfl) rfl
          have f76 : v76 = .bool true := f76
          subst f76
          clear hk hd
          have HR := Lib.hid hR
          clear hR
          go_simp
          exact hK _ _ (Below.refl _ _) rfl
        · intro ra RW hR hk hd K hK
          obtain ⟨v77, e77, g77, f77⟩ := hd 20 77 (by kernel_rfl) rfl
          have f77 : v77 = .bool true := f77
          subst f77
          clear hk hd
          have HR := Lib.hid hR
          clear hR
          go_simp
          exact hK _ _ (Below.refl _ _) rfl
      intro vs RW hR hF
      have q0 : vs 0 = .int .i64 2 := hF 0 (by decide)
      have q1 : vs 1 = .slice A7 zs.length c7 := hF 1 (by decide)
      have F59 := Lib.hid (hF 2 (by decide))
      have q3 : vs 3 = .string st := hF 3 (by decide)
      have q4 : vs 4 = .slice A n c := hF 4 (by decide)
      have q5 : vs 5 = .slice A n c := hF 5 (by decide)
      have q6 : vs 6 = .int .i64 (n : Int) := hF 6 (by decide)
      have q7 : vs 7 = .int .i64 (m : Int) := hF 7 (by decide)
      have q8 : vs 8 = .int .i64 (m2 : Int) := hF 8 (by decide)
      have q9 : vs 9 = .slice A m2 c := hF 9 (by decide)
      have q10 : vs 10 = .string st := hF 10 (by decide)
      have q11 : vs 11 = .bool true := hF 11 (by decide)
      have q12 : vs 12 = .bool true := hF 12 (by decide)
      have q13 : vs 13 = .int .i64 2 := hF 13 (by decide)
      have q14 : vs 14 = .slice A8 L8 c8 := hF 14 (by decide)
      have F72 := Lib.hid (hF 15 (by decide))
      have q16 : vs 16 = .int .i64 (n2 : Int) := hF 16 (by decide)
      have q17 : vs 17 = .slice A2 n2 c2 := hF 17 (by decide)
      have q18 : vs 18 = .int .i64 (n2 : Int) := hF 18 (by decide)
      have q19 : vs 19 = .bool true := hF 19 (by decide)
      have q20 : vs 20 = .bool true := hF 20 (by decide)
      have q21 : vs 21 = .bool true := hF 21 (by decide)
      simp only [setAll, List.setIfInBounds_toArray, List.set_cons_zero, List.set_cons_succ, q0, q1, q3, q4, q5, q6, q7, q8, q9, q10, q11, q12, q13, q14, q16, q17, q18, q19, q20, q21]
      clear hF q0 q1 q3 q4 q5 q6 q7 q8 q9 q10 q11 q12 q13 q14 q16 q17 q18 q19 q20 q21
      generalize vs 2 = v59 at *
      generalize vs 15 = v72 at *
      clear vs
      have HBZ := Lib.hid (below_trans HBE.out hR)
      clear hR hm6 hm7
      go_wp2_with fail
      go_ret
      exact ⟨rfl, HBZ.out⟩
    · have HBE : Hid (Below w.heap.size w RW.drew) := below_drewN HBR.out 1
      have HOO : Hid (∀ W, Below RW.drew.heap.size RW.drew W → Calls Try.prog 11 #[.int .i64 3, .slice A7 zs.length c7] W fun e w' => ∃ v, e = .returned v ∧ Below W.heap.size W w' ∧ ∀ W2, Below w'.heap.size w' W2 → (convert 24 9 v).run Try.prog W2 = .ok (.string st) W2) := fun W hW =>
        (octets_any 3 zs A7 zs.length c7 W.heap.size W ((HO7.out.drew.below hW fun _ h => HO7.out.lt h).rd) (by omega) (Nat.le_refl _)).mono fun e w' ⟨v, he, hn⟩ => ⟨v, he, hn.2.1, fun W2 hb => by rw [← HST.out, ← HP1.out]; exact conv_own (hn.1.below hb fun _ h => hn.1.lt h)⟩
      have HCT : Hid (∀ W, Below RW.drew.heap.size RW.drew W → (convert 24 9 (.slice A m2 c)).run Try.prog W = .ok (.string st) W) := fun W hW => by
        have := (HA.out.below (below_trans HBE.out hW)).take_ hm2n
        rw [Nat.mul_one, ← List.map_take] at this
        rw [← HST.out]
        exact conv_rd this
      have HUO : Hid (∀ W, Below RW.drew.heap.size RW.drew W → Calls Try.prog 10 #[.int .i64 3, .slice A8 L8 c8] W fun e w' => ∃ v, e = .returned v ∧ Below W.heap.size W w' ∧ ∃ A9 c9, v = .slice A9 n2 c9) := fun W hW => by
        have h8 := HO8.out.drew.below hW fun _ h => HO8.out.lt h
        refine (units_any 3 os A8 L8 c8 W.heap.size W h8.rd (by have := E8.out; omega) (Nat.le_refl _)).mono fun e w' ⟨v, he, hn⟩ => ?_
        obtain ⟨A9, c9, hv, -, -⟩ := hn.1.len_
        rw [unitsB_len rfl, HL8.out, E8.out, show 2 * n2 / 2 = n2 from by omega] at hv
        exact ⟨v, he, hn.2.1, A9, c9, hv⟩
      go_wp2_with fail
      refine region_rows (by kernel_rfl) (fun W W' => Below W.heap.size W W')
        [.val (.int .i64 3),
         .val (.slice A7 zs.length c7),
         ⟨fun v W => ∀ W2, Below W.heap.size W W2 → (convert 24 9 v).run Try.prog W2 = .ok (.string st) W2, fun _ _ _ h hR _ hb => h _ (below_trans hR hb)⟩,
         .val (.string st),
         .val (.slice A n c),
         .val (.slice A n c),
         .val (.int .i64 (n : Int)),
         .val (.int .i64 (m : Int)),
         .val (.int .i64 (m2 : Int)),
         .val (.slice A m2 c),
         .val (.string st),
         .val (.bool true),
         .val (.bool true),
         .val (.int .i64 3),
         .val (.slice A8 L8 c8),
         ⟨fun v _ => ∃ A9 c9, v = .slice A9 n2 c9, fun _ _ _ h _ => h⟩,
         .val (.int .i64 (n2 : Int)),
         .val (.slice A2 n2 c2),
         .val (.int .i64 (n2 : Int)),
         .val (.bool true),
         .val (.bool true),
         .val (.bool true)]
        (fun W => Below.refl _ W) (fun _ _ _ h k => below_trans h k) (by kernel_rfl) ?_ ?_
      · refine ⟨?_, ?_, ?_, ?_, ?_, ?_, ?_, ?_, ?_, ?_, ?_, ?_, ?_, ?_, ?_, ?_, ?_, ?_, ?_, ?_, ?_, ?_, trivial⟩
        · intro ra RW hR hk hd K hK
          obtain ⟨e0, g0⟩ := hk 0 (.int .i64 3) (by kernel_rfl) rfl
          clear hk hd
          have HR := Lib.hid hR
          clear hR
          go_simp
          exact hK _ _ (Below.refl _ _) rfl
        · intro ra RW hR hk hd K hK
          obtain ⟨e7, g7⟩ := hk 7 (.slice A7 zs.length c7) (by kernel_rfl) rfl
          clear hk hd
          have HR := Lib.hid hR
          clear hR
          go_simp
          exact hK _ _ (Below.refl _ _) rfl
        · intro ra RW hR hk hd K hK
          obtain ⟨v57, e57, g57, f57⟩ := hd 0 57 (by kernel_rfl) rfl
          have f57 : v57 = .int .i64 3 := f57
          subst f57
          obtain ⟨v58, e58, g58, f58⟩ := hd 1 58 (by kernel_rfl) rfl
          have f58 : v58 = .slice A7 zs.length c7 := f58
          subst f58
          clear hk hd
          have HR := Lib.hid hR
          clear hR
          go_simp
          refine (HOO.out _ HR.out).mono ?_
          rintro e w2 ⟨v2, rfl, hb2, hc2⟩
          exact hK _ _ hb2 hc2
        · intro ra RW hR hk hd K hK
          obtain ⟨v59, e59, g59, f59⟩ := hd 2 59 (by kernel_rfl) rfl
          have F59 := Lib.hid f59
          clear f59
          clear hk hd
          have HR := Lib.hid hR
          clear hR
          go_simp
          rw [F59.out _ (Below.refl _ _)]
          go_simp
          exact hK _ _ (Below.refl _ _) rfl
        · intro ra RW hR hk hd K hK
          obtain ⟨e1, g1⟩ := hk 1 (.slice A n c) (by kernel_rfl) rfl
          clear hk hd
          have HR := Lib.hid hR
          clear hR
          go_simp
          exact hK _ _ (Below.refl _ _) rfl
        · intro ra RW hR hk hd K hK
          obtain ⟨e1, g1⟩ := hk 1 (.slice A n c) (by kernel_rfl) rfl
          clear hk hd
          have HR := Lib.hid hR
          clear hR
          go_simp
          exact hK _ _ (Below.refl _ _) rfl
        · intro ra RW hR hk hd K hK
          obtain ⟨v62, e62, g62, f62⟩ := hd 5 62 (by kernel_rfl) rfl
          have f62 : v62 = .slice A n c := f62
          subst f62
          clear hk hd
          have HR := Lib.hid hR
          clear hR
          go_simp
          exact hK _ _ (Below.refl _ _) rfl
        · intro ra RW hR hk hd K hK
          obtain ⟨v63, e63, g63, f63⟩ := hd 6 63 (by kernel_rfl) rfl
          have f63 : v63 = .int .i64 (n : Int) := f63
          subst f63
          clear hk hd
          have HR := Lib.hid hR
          clear hR
          go_simp
          exact hK _ _ (Below.refl _ _) rfl
        · intro ra RW hR hk hd K hK
          obtain ⟨v64, e64, g64, f64⟩ := hd 7 64 (by kernel_rfl) rfl
          have f64 : v64 = .int .i64 (m : Int) := f64
          subst f64
          clear hk hd
          have HR := Lib.hid hR
          clear hR
          go_simp
          exact hK _ _ (Below.refl _ _) rfl
        · intro ra RW hR hk hd K hK
          obtain ⟨v61, e61, g61, f61⟩ := hd 4 61 (by kernel_rfl) rfl
          have f61 : v61 = .slice A n c := f61
          subst f61
          obtain ⟨v65, e65, g65, f65⟩ := hd 8 65 (by kernel_rfl) rfl
          have f65 : v65 = .int .i64 (m2 : Int) := f65
          subst f65
          clear hk hd
          have HR := Lib.hid hR
          clear hR
          go_simp
          exact hK _ _ (Below.refl _ _) rfl
        · intro ra RW hR hk hd K hK
          obtain ⟨v66, e66, g66, f66⟩ := hd 9 66 (by kernel_rfl) rfl
          have f66 : v66 = .slice A m2 c := f66
          subst f66
          clear hk hd
          have HR := Lib.hid hR
          clear hR
          go_simp
          rw [HCT.out _ HR.out]
          go_simp
          exact hK _ _ (Below.refl _ _) rfl
        · intro ra RW hR hk hd K hK
          obtain ⟨v60, e60, g60, f60⟩ := hd 3 60 (by kernel_rfl) rfl
          have f60 : v60 = .string st := f60
          subst f60
          obtain ⟨v67, e67, g67, f67⟩ := hd 10 67 (by kernel_rfl) rfl
          have f67 : v67 = .string st := f67
          subst f67
          clear hk hd
          have HR := Lib.hid hR
          clear hR
          go_simp
          exact hK _ _ (Below.refl _ _) rfl
        · intro ra RW hR hk hd K hK
          obtain ⟨v68, e68, g68, f68⟩ := hd 11 68 (by kernel_rfl) rfl
          have f68 : v68 = .bool true := f68
          subst f68
          clear hk hd
          have HR := Lib.hid hR
          clear hR
          go_simp
          exact hK _ _ (Below.refl _ _) rfl
        · intro ra RW hR hk hd K hK
          obtain ⟨e0, g0⟩ := hk 0 (.int .i64 3) (by kernel_rfl) rfl
          obtain ⟨v69, e69, g69, f69⟩ := hd 12 69 (by kernel_rfl) rfl
          have f69 : v69 = .bool true := f69
          subst f69
          clear hk hd
          have HR := Lib.hid hR
          clear hR
          go_simp
          exact hK _ _ (Below.refl _ _) rfl
        · intro ra RW hR hk hd K hK
          obtain ⟨e8, g8⟩ := hk 8 (.slice A8 L8 c8) (by kernel_rfl) rfl
          obtain ⟨v69, e69, g69, f69⟩ := hd 12 69 (by kernel_rfl) rfl
          have f69 : v69 = .bool true := f69
          subst f69
          clear hk hd
          have HR := Lib.hid hR
          clear hR
          go_simp
          exact hK _ _ (Below.refl _ _) rfl
        · intro ra RW hR hk hd K hK
          obtain ⟨v70, e70, g70, f70⟩ := hd 13 70 (by kernel_rfl) rfl
          have f70 : v70 = .int .i64 3 := f70
          subst f70
          obtain ⟨v71, e71, g71, f71⟩ := hd 14 71 (by kernel_rfl) rfl
          have f71 : v71 = .slice A8 L8 c8 := f71
          subst f71
          obtain ⟨v69, e69, g69, f69⟩ := hd 12 69 (by kernel_rfl) rfl
          have f69 : v69 = .bool true := f69
          subst f69
          clear hk hd
          have HR := Lib.hid hR
          clear hR
          go_simp
          refine (HUO.out _ HR.out).mono ?_
          rintro e w2 ⟨v2, rfl, hb2, hc2⟩
          exact hK _ _ hb2 hc2
        · intro ra RW hR hk hd K hK
          obtain ⟨v72, e72, g72, f72⟩ := hd 15 72 (by kernel_rfl) rfl
          have F72 := Lib.hid f72
          clear f72
          obtain ⟨v69, e69, g69, f69⟩ := hd 12 69 (by kernel_rfl) rfl
          have f69 : v69 = .bool true := f69
          subst f69
          clear hk hd
          have HR := Lib.hid hR
          clear hR
          go_simp
          obtain ⟨A9, c9, rfl⟩ := F72.out
          go_simp
          exact hK _ _ (Below.refl _ _) rfl
        · intro ra RW hR hk hd K hK
          obtain ⟨e2, g2⟩ := hk 2 (.slice A2 n2 c2) (by kernel_rfl) rfl
          obtain ⟨v69, e69, g69, f69⟩ := hd 12 69 (by kernel_rfl) rfl
          have f69 : v69 = .bool true := f69
          subst f69
          clear hk hd
          have HR := Lib.hid hR
          clear hR
          go_simp
          exact hK _ _ (Below.refl _ _) rfl
        · intro ra RW hR hk hd K hK
          obtain ⟨v74, e74, g74, f74⟩ := hd 17 74 (by kernel_rfl) rfl
          have f74 : v74 = .slice A2 n2 c2 := f74
          subst f74
          obtain ⟨v69, e69, g69, f69⟩ := hd 12 69 (by kernel_rfl) rfl
          have f69 : v69 = .bool true := f69
          subst f69
          clear hk hd
          have HR := Lib.hid hR
          clear hR
          go_simp
          exact hK _ _ (Below.refl _ _) rfl
        · intro ra RW hR hk hd K hK
          obtain ⟨v73, e73, g73, f73⟩ := hd 16 73 (by kernel_rfl) rfl
          have f73 : v73 = .int .i64 (n2 : Int) := f73
          subst f73
          obtain ⟨v75, e75, g75, f75⟩ := hd 18 75 (by kernel_rfl) rfl
          have f75 : v75 = .int .i64 (n2 : Int) := f75
          subst f75
          obtain ⟨v69, e69, g69, f69⟩ := hd 12 69 (by kernel_rfl) rfl
          have f69 : v69 = .bool true := f69
          subst f69
          clear hk hd
          have HR := Lib.hid hR
          clear hR
          go_simp
          exact hK _ _ (Below.refl _ _) rfl
        · intro ra RW hR hk hd K hK
          obtain ⟨v69, e69, g69, f69⟩ := hd 12 69 (by kernel_rfl) rfl
          have f69 : v69 = .bool true := f69
          subst f69
          obtain ⟨v76, e76, g76, f76⟩ := hd 19 76 (by kernel_rfl) rfl
          have f76 : v76 = .bool true := f76
          subst f76
          clear hk hd
          have HR := Lib.hid hR
          clear hR
          go_simp
          exact hK _ _ (Below.refl _ _) rfl
        · intro ra RW hR hk hd K hK
          obtain ⟨v77, e77, g77, f77⟩ := hd 20 77 (by kernel_rfl) rfl
          have f77 : v77 = .bool true := f77
          subst f77
          clear hk hd
          have HR := Lib.hid hR
          clear hR
          go_simp
          exact hK _ _ (Below.refl _ _) rfl
      intro vs RW hR hF
      have q0 : vs 0 = .int .i64 3 := hF 0 (by decide)
      have q1 : vs 1 = .slice A7 zs.length c7 := hF 1 (by decide)
      have F59 := Lib.hid (hF 2 (by decide))
      have q3 : vs 3 = .string st := hF 3 (by decide)
      have q4 : vs 4 = .slice A n c := hF 4 (by decide)
      have q5 : vs 5 = .slice A n c := hF 5 (by decide)
      have q6 : vs 6 = .int .i64 (n : Int) := hF 6 (by decide)
      have q7 : vs 7 = .int .i64 (m : Int) := hF 7 (by decide)
      have q8 : vs 8 = .int .i64 (m2 : Int) := hF 8 (by decide)
      have q9 : vs 9 = .slice A m2 c := hF 9 (by decide)
      have q10 : vs 10 = .string st := hF 10 (by decide)
      have q11 : vs 11 = .bool true := hF 11 (by decide)
      have q12 : vs 12 = .bool true := hF 12 (by decide)
      have q13 : vs 13 = .int .i64 3 := hF 13 (by decide)
      have q14 : vs 14 = .slice A8 L8 c8 := hF 14 (by decide)
      have F72 := Lib.hid (hF 15 (by decide))
      have q16 : vs 16 = .int .i64 (n2 : Int) := hF 16 (by decide)
      have q17 : vs 17 = .slice A2 n2 c2 := hF 17 (by decide)
      have q18 : vs 18 = .int .i64 (n2 : Int) := hF 18 (by decide)
      have q19 : vs 19 = .bool true := hF 19 (by decide)
      have q20 : vs 20 = .bool true := hF 20 (by decide)
      have q21 : vs 21 = .bool true := hF 21 (by decide)
      simp only [setAll, List.setIfInBounds_toArray, List.set_cons_zero, List.set_cons_succ, q0, q1, q3, q4, q5, q6, q7, q8, q9, q10, q11, q12, q13, q14, q16, q17, q18, q19, q20, q21]
      clear hF q0 q1 q3 q4 q5 q6 q7 q8 q9 q10 q11 q12 q13 q14 q16 q17 q18 q19 q20 q21
      generalize vs 2 = v59 at *
      generalize vs 15 = v72 at *
      clear vs
      have HBZ := Lib.hid (below_trans HBE.out hR)
      clear hR hm6 hm7
      go_wp2_with fail
      go_ret
      exact ⟨rfl, HBZ.out⟩

set_option maxHeartbeats 2000000 in
theorem ounits_any (k : Int) (b : List UInt8) (A : Option Addr) (n c : Nat) (us : List Int) (A2 : Option Addr) (n2 c2 : Nat) (w : World) (hA : Rd w w.heap.size 1 A n (b.map bV)) (hc : n ≤ c) (hA2 : Rd w w.heap.size 1 A2 n2 (us.map iV)) :
    Calls Try.prog 4 #[.int .i64 k, .slice A n c, .slice A2 n2 c2] w fun e w' => e = .returned (.bool true) ∧ Below w.heap.size w w' := by
  by_cases h1 : n ≤ 100
  · by_cases h2 : n2 ≤ 60
    · exact ounits_small k b A n c us A2 n2 c2 w hA hc hA2 h1 h2
    · have i1 : ¬ (100 : Int) < (n : Int) := by omega
      have i2 : (60 : Int) < (n2 : Int) := by omega
      clear hA hA2
      go_enter Try.func4, Try.ntmps4
      go_wp2_with fail
      refine (awake_any _).mono ?_
      rintro e1 w1 ⟨rfl, hb1⟩
      have HB1 := Lib.hid hb1
      clear hb1
      go_wp2_with fail
      refine (awake_any _).mono ?_
      rintro e3 w3 ⟨rfl, hb3⟩
      have HB3 := Lib.hid (below_trans HB1.out hb3)
      clear hb3
      go_wp2_with fail
      go_ret
      exact ⟨rfl, HB3.out⟩
  · have i1 : (100 : Int) < (n : Int) := by omega
    clear hA hA2
    go_enter Try.func4, Try.ntmps4
    go_wp2_with fail
    refine (awake_any _).mono ?_
    rintro e1 w1 ⟨rfl, hb1⟩
    have HB1 := Lib.hid hb1
    clear hb1
    go_wp2_with fail
    refine (awake_any _).mono ?_
    rintro e3 w3 ⟨rfl, hb3⟩
    have HB3 := Lib.hid (below_trans HB1.out hb3)
    clear hb3
    go_wp2_with fail
    go_ret
    exact ⟨rfl, HB3.out⟩
end Go.Proofs.Ytkibjjndeimikaa
