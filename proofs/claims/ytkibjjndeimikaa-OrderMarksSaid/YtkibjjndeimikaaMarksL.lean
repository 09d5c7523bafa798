/-
  The law OrderMarks of reedbedlaw02 returns true; no condition beyond those that each theorem states.
-/
import Derived.Test.YtkibjjndeimikaaMark2
import Derived.Test.YtkibjjndeimikaaRefMark
namespace Go.Proofs.Ytkibjjndeimikaa
open Go.RowKit Go.Rb
attribute [local irreducible] Go.wpQuiet

theorem open_eq : ∀ b : List UInt8, openB b = (decide (b = []) || decide (b = [239]) || decide (b = [239, 187]) || decide (b = [255]) || decide (b = [254]))
  | [] => by decide
  | [x] => by
    rw [Bool.eq_iff_iff]
    simp [openB, part1, prefB, mk1, mk2, mk3]
    constructor <;> (intro h; rcases h with (h | h) | h <;> simp [h])
  | [x, y] => by
    rw [Bool.eq_iff_iff]
    simp [openB, part1, prefB, mk1, mk2, mk3]
    constructor <;> (rintro ⟨h1, h2⟩; exact ⟨h1.symm, h2.symm⟩)
  | x :: y :: z :: r => by
    rw [Bool.eq_iff_iff]
    simp [openB, part1, prefB, mk1, mk2, mk3]
theorem mark_open {b : List UInt8} (h : openB b = true) : markP b = (0, 0) := by
  rw [open_eq] at h
  simp at h
  rcases h with (((h | h) | h) | h) | h <;> (subst h; decide)
theorem sure_open (b : List UInt8) : sureB b = !openB b := by
  unfold sureB
  cases h : openB b with
  | true => rw [mark_open h]; decide
  | false => simp
theorem sure_eq (b : List UInt8) : sureB b = !(decide (b = []) || decide (b = [239]) || decide (b = [239, 187]) || decide (b = [255]) || decide (b = [254])) := by
  rw [sure_open, open_eq]
theorem pref_more {m b : List UInt8} (r : List UInt8) (h : part1 m b = false) : prefB (b ++ r) m = prefB b m := by
  rw [Bool.eq_iff_iff, prefB_iff, prefB_iff]
  constructor
  · intro hm
    rcases List.prefix_or_prefix_of_prefix hm (List.prefix_append b r) with h1 | h1
    · exact h1
    · have hl : ¬ b.length < m.length := fun hl => by
        unfold part1 at h
        rw [(prefB_iff m b).2 h1, decide_eq_true hl] at h
        cases h
      have e : b = m := h1.eq_of_length_le (by omega)
      rw [e]
      exact List.prefix_refl m
  · exact fun hm => hm.trans (List.prefix_append b r)
theorem mark_more {b : List UInt8} (r : List UInt8) (h : sureB b = true) : markP (b ++ r) = markP b := by
  rw [sure_open] at h
  have ho : openB b = false := by simpa using h
  unfold openB at ho
  simp only [Bool.or_eq_false_iff] at ho
  obtain ⟨⟨h1, h2⟩, h3⟩ := ho
  unfold markP
  rw [pref_more r h1, pref_more r h2, pref_more r h3]
set_option maxRecDepth 20000 in
set_option maxHeartbeats 8000000 in
theorem marksLaw_small (b rest : List UInt8) (A : Option Addr) (n c : Nat) (A2 : Option Addr) (n2 c2 : Nat) (w : World) (hA : Rd w w.heap.size 1 A n (b.map bV)) (hc : n ≤ c) (hA2 : Rd w w.heap.size 1 A2 n2 (rest.map bV)) (hn : n ≤ 100) (hn2 : n2 ≤ 100) :
    Calls Try.prog 6 #[.slice A n c, .slice A2 n2 c2] w fun e w' => e = .returned (.bool true) ∧ Below w.heap.size w w' := by
  obtain ⟨i0, hi0, hz0, hz1, hz2⟩ := info_parts info5
  have HA := Lib.hid hA
  have HA2 := Lib.hid hA2
  have hl : b.length = n := by simpa using hA.1
  have hl2 : rest.length = n2 := by simpa using hA2.1
  have i1 : ¬ (100 : Int) < (n : Int) := by omega
  have i2 : ¬ (100 : Int) < (n2 : Int) := by omega
  have HMK := Lib.hid (fun W (hb : Below w.heap.size w W) => mark_any b A n c w.heap.size W (HA.out.below hb) hc hb.size)
  have HRM := Lib.hid (fun W => refMark_any b W (by omega))
  have HSR := Lib.hid (fun W (hb : Below w.heap.size w W) => sure_any b A n c w.heap.size W (HA.out.below hb) hc hb.size)
  have HRS := Lib.hid (refSure_any b)
  rw [← sure_eq b] at HRS
  have HMM := Lib.hid (mark_more (b := b) rest)
  have HS : Hid (∀ (W : World), Below w.heap.size w W → (convert 24 9 (.slice A n c)).run Try.prog W = .ok (.string ⟨b.toArray⟩) W) := fun W hW => conv_rd (HA.out.below hW)
  have HLL : Hid (b.length = n ∧ rest.length = n2) := ⟨hl, hl2⟩
  obtain ⟨mk, hmk⟩ : ∃ m, markP b = m := ⟨_, rfl⟩
  rw [hmk] at HMK HRM HMM
  obtain ⟨m1, m2⟩ := mk
  obtain ⟨sb, hsb⟩ : ∃ m, sureB b = m := ⟨_, rfl⟩
  rw [hsb] at HSR HRS HMM
  obtain ⟨s, hs⟩ : ∃ s : ByteArray, (⟨b.toArray⟩ : ByteArray) = s := ⟨_, rfl⟩
  rw [hs] at HRM HRS HS
  simp only at HMK HRM
  clear hA hA2 hl hl2 hmk hsb hs
  go_enter Try.func6, Try.ntmps6
  go_wp2_with fail
  refine (awake_any _).mono ?_
  rintro e1 w1 ⟨rfl, hb1⟩
  have HB1 := Lib.hid hb1
  clear hb1
  go_wp2_with fail
  refine (HMK.out _ HB1.out).mono ?_
  rintro e2 w2 ⟨rfl, hb2⟩
  have HB2 := Lib.hid (below_trans HB1.out hb2)
  have kc := HS.out w2 HB2.out
  clear hb2
  go_wp2_with fail
  refine (HRM.out _).mono ?_
  rintro e3 w3 ⟨rfl, rfl⟩
  clear kc
  go_wp2_with fail
  have HBD : Hid (Below w.heap.size w w2.drew) := below_drewN HB2.out 1
  have HSU : Hid (∀ W, Below w2.drew.heap.size w2.drew W → Calls Try.prog 17 #[.slice A n c] W fun e w' => e = .returned (.bool sb) ∧ Below W.heap.size W w') := fun W hW => by
    refine (HSR.out W (below_trans HBD.out hW)).mono fun e w' ⟨he, hb⟩ => ⟨he, hb⟩
  have HCB : Hid (∀ W, Below w2.drew.heap.size w2.drew W → (convert 24 9 (.slice A n c)).run Try.prog W = .ok (.string s) W) := fun W hW => HS.out W (below_trans HBD.out hW)
  refine region_rows (by kernel_rfl) (fun W W' => Below W.heap.size W W')
    [.val (.int .i64 m1),
     .val (.int .i64 m1),
     .val (.bool false),
     .val (.bool false),
     .val (.int .i64 m2),
     .val (.int .i64 m2),
     .val (.bool false),
     .val (.bool false),
     .val (.bool false),
     .val (.slice A n c),
     .val (.bool sb),
     .val (.slice A n c),
     .val (.string s),
     .val (.bool sb),
     .val (.bool false),
     .val (.bool false)]
    (fun W => Below.refl _ W) (fun _ _ _ h k => below_trans h k) (by kernel_rfl) ?_ ?_
  · refine ⟨?_, ?_, ?_, ?_, ?_, ?_, ?_, ?_, ?_, ?_, ?_, ?_, ?_, ?_, ?_, ?_, trivial⟩
    · intro ra RW hR hk hd K hK
      obtain ⟨e5, g5⟩ := hk 5 (.int .i64 m1) (by kernel_rfl) rfl
      clear hk hd
      have HR := Lib.hid hR
      clear hR
      go_simp
      exact hK _ _ (Below.refl _ _) rfl
    · intro ra RW hR hk hd K hK
      obtain ⟨e7, g7⟩ := hk 7 (.int .i64 m1) (by kernel_rfl) rfl
      clear hk hd
      have HR := Lib.hid hR
      clear hR
      go_simp
      exact hK _ _ (Below.refl _ _) rfl
    · intro ra RW hR hk hd K hK
      obtain ⟨v35, e35, g35, f35⟩ := hd 0 35 (by kernel_rfl) rfl
      have f35 : v35 = .int .i64 m1 := f35
      subst f35
      obtain ⟨v36, e36, g36, f36⟩ := hd 1 36 (by kernel_rfl) rfl
      have f36 : v36 = .int .i64 m1 := f36
      subst f36
      clear hk hd
      have HR := Lib.hid hR
      clear hR
      go_simp
      exact hK _ _ (Below.refl _ _) rfl
    · intro ra RW hR hk hd K hK
      obtain ⟨v37, e37, g37, f37⟩ := hd 2 37 (by kernel_rfl) rfl
      have f37 : v37 = .bool false := f37
      subst f37
      clear hk hd
      have HR := Lib.hid hR
      clear hR
      go_simp
      exact hK _ _ (Below.refl _ _) rfl
    · intro ra RW hR hk hd K hK
      obtain ⟨e6, g6⟩ := hk 6 (.int .i64 m2) (by kernel_rfl) rfl
      obtain ⟨v38, e38, g38, f38⟩ := hd 3 38 (by kernel_rfl) rfl
      have f38 : v38 = .bool false := f38
      subst f38
      clear hk hd
      have HR := Lib.hid hR
      clear hR
      go_simp
      exact hK _ _ (Below.refl _ _) rfl
    · intro ra RW hR hk hd K hK
      obtain ⟨e8, g8⟩ := hk 8 (.int .i64 m2) (by kernel_rfl) rfl
      obtain ⟨v38, e38, g38, f38⟩ := hd 3 38 (by kernel_rfl) rfl
      have f38 : v38 = .bool false := f38
      subst f38
      clear hk hd
      have HR := Lib.hid hR
      clear hR
      go_simp
      exact hK _ _ (Below.refl _ _) rfl
    · intro ra RW hR hk hd K hK
      obtain ⟨v39, e39, g39, f39⟩ := hd 4 39 (by kernel_rfl) rfl
      have f39 : v39 = .int .i64 m2 := f39
      subst f39
      obtain ⟨v40, e40, g40, f40⟩ := hd 5 40 (by kernel_rfl) rfl
      have f40 : v40 = .int .i64 m2 := f40
      subst f40
      obtain ⟨v38, e38, g38, f38⟩ := hd 3 38 (by kernel_rfl) rfl
      have f38 : v38 = .bool false := f38
      subst f38
      clear hk hd
      have HR := Lib.hid hR
      clear hR
      go_simp
      exact hK _ _ (Below.refl _ _) rfl
    · intro ra RW hR hk hd K hK
      obtain ⟨v38, e38, g38, f38⟩ := hd 3 38 (by kernel_rfl) rfl
      have f38 : v38 = .bool false := f38
      subst f38
      obtain ⟨v41, e41, g41, f41⟩ := hd 6 41 (by kernel_rfl) rfl
      have f41 : v41 = .bool false := f41
      subst f41
      clear hk hd
      have HR := Lib.hid hR
      clear hR
      go_simp
      exact hK _ _ (Below.refl _ _) rfl
    · intro ra RW hR hk hd K hK
      obtain ⟨v42, e42, g42, f42⟩ := hd 7 42 (by kernel_rfl) rfl
      have f42 : v42 = .bool false := f42
      subst f42
      clear hk hd
      have HR := Lib.hid hR
      clear hR
      go_simp
      exact hK _ _ (Below.refl _ _) rfl
    · intro ra RW hR hk hd K hK
      obtain ⟨e0, g0⟩ := hk 0 (.slice A n c) (by kernel_rfl) rfl
      obtain ⟨v43, e43, g43, f43⟩ := hd 8 43 (by kernel_rfl) rfl
      have f43 : v43 = .bool false := f43
      subst f43
      clear hk hd
      have HR := Lib.hid hR
      clear hR
      go_simp
      exact hK _ _ (Below.refl _ _) rfl
    · intro ra RW hR hk hd K hK
      obtain ⟨v44, e44, g44, f44⟩ := hd 9 44 (by kernel_rfl) rfl
      have f44 : v44 = .slice A n c := f44
      subst f44
      obtain ⟨v43, e43, g43, f43⟩ := hd 8 43 (by kernel_rfl) rfl
      have f43 : v43 = .bool false := f43
      subst f43
      clear hk hd
      have HR := Lib.hid hR
      clear hR
      go_simp
      refine (HSU.out _ HR.out).mono ?_
      rintro e w2 ⟨rfl, hb2⟩
      exact hK _ _ hb2 rfl
    · intro ra RW hR hk hd K hK
      obtain ⟨e0, g0⟩ := hk 0 (.slice A n c) (by kernel_rfl) rfl
      obtain ⟨v43, e43, g43, f43⟩ := hd 8 43 (by kernel_rfl) rfl
      have f43 : v43 = .bool false := f43
      subst f43
      clear hk hd
      have HR := Lib.hid hR
      clear hR
      go_simp
      exact hK _ _ (Below.refl _ _) rfl
    · intro ra RW hR hk hd K hK
      obtain ⟨v46, e46, g46, f46⟩ := hd 11 46 (by kernel_rfl) rfl
      have f46 : v46 = .slice A n c := f46
      subst f46
      obtain ⟨v43, e43, g43, f43⟩ := hd 8 43 (by kernel_rfl) rfl
      have f43 : v43 = .bool false := f43
      subst f43
      clear hk hd
      have HR := Lib.hid hR
      clear hR
      go_simp
      rw [HCB.out _ HR.out]
      go_simp
      exact hK _ _ (Below.refl _ _) rfl
    · intro ra RW hR hk hd K hK
      obtain ⟨v47, e47, g47, f47⟩ := hd 12 47 (by kernel_rfl) rfl
      have f47 : v47 = .string s := f47
      subst f47
      obtain ⟨v43, e43, g43, f43⟩ := hd 8 43 (by kernel_rfl) rfl
      have f43 : v43 = .bool false := f43
      subst f43
      clear hk hd
      have HR := Lib.hid hR
      clear hR
      go_simp
      refine (HRS.out _).mono ?_
      rintro e w2 ⟨rfl, rfl⟩
      exact hK _ _ (Below.refl _ _) rfl
    · intro ra RW hR hk hd K hK
      obtain ⟨v45, e45, g45, f45⟩ := hd 10 45 (by kernel_rfl) rfl
      have f45 : v45 = .bool sb := f45
      subst f45
      obtain ⟨v48, e48, g48, f48⟩ := hd 13 48 (by kernel_rfl) rfl
      have f48 : v48 = .bool sb := f48
      subst f48
      obtain ⟨v43, e43, g43, f43⟩ := hd 8 43 (by kernel_rfl) rfl
      have f43 : v43 = .bool false := f43
      subst f43
      clear hk hd
      have HR := Lib.hid hR
      clear hR
      go_simp
      exact hK _ _ (Below.refl _ _) rfl
    · intro ra RW hR hk hd K hK
      obtain ⟨v43, e43, g43, f43⟩ := hd 8 43 (by kernel_rfl) rfl
      have f43 : v43 = .bool false := f43
      subst f43
      obtain ⟨v49, e49, g49, f49⟩ := hd 14 49 (by kernel_rfl) rfl
      have f49 : v49 = .bool false := f49
      subst f49
      clear hk hd
      have HR := Lib.hid hR
      clear hR
      go_simp
      exact hK _ _ (Below.refl _ _) rfl
  intro vs RW hR hF
  have q0 : vs 0 = .int .i64 m1 := hF 0 (by decide)
  have q1 : vs 1 = .int .i64 m1 := hF 1 (by decide)
  have q2 : vs 2 = .bool false := hF 2 (by decide)
  have q3 : vs 3 = .bool false := hF 3 (by decide)
  have q4 : vs 4 = .int .i64 m2 := hF 4 (by decide)
  have q5 : vs 5 = .int .i64 m2 := hF 5 (by decide)
  have q6 : vs 6 = .bool false := hF 6 (by decide)
  have q7 : vs 7 = .bool false := hF 7 (by decide)
  have q8 : vs 8 = .bool false := hF 8 (by decide)
  have q9 : vs 9 = .slice A n c := hF 9 (by decide)
  have q10 : vs 10 = .bool sb := hF 10 (by decide)
  have q11 : vs 11 = .slice A n c := hF 11 (by decide)
  have q12 : vs 12 = .string s := hF 12 (by decide)
  have q13 : vs 13 = .bool sb := hF 13 (by decide)
  have q14 : vs 14 = .bool false := hF 14 (by decide)
  have q15 : vs 15 = .bool false := hF 15 (by decide)
  simp only [setAll, List.setIfInBounds_toArray, List.set_cons_zero, List.set_cons_succ, q0, q1, q2, q3, q4, q5, q6, q7, q8, q9, q10, q11, q12, q13, q14, q15]
  clear hF q0 q1 q2 q3 q4 q5 q6 q7 q8 q9 q10 q11 q12 q13 q14 q15
  clear vs
  have HBR := Lib.hid (below_trans HBD.out hR)
  have HA1 := Lib.hid (HA.out.below HBR.out)
  have HA12 := Lib.hid (HA2.out.below HBR.out)
  clear hR HSU HCB HRS HRM
  have h63 : 0 + n ≤ maxLen := by simp only [maxLen]; omega
  have h64 : n + n2 ≤ maxLen := by simp only [maxLen]; omega
  have H63 := Lib.hid h63
  have H64 := Lib.hid h64
  clear h63 h64
  go_wp2_with (first
    | (at_builtin; refine wpList_append_rd _ rfl (.tmp 52) (.tmp 53) _ rfl 5 i0 _ 1 1 Try.underlying24 hi0 hz0 hz1 hz2 rfl (by omega) (.slice (some ⟨RW.heap.size, 0, none⟩) 0 0) 0 [] rfl (by exact Own.lit RW 5 1 0 #[] rfl (by decide)) w.heap.size A n c (b.map bV) rfl (by exact HA1.out.below ((below_al (Below.refl _ _) _).mono HBR.out.size)) (by simp [bV, Value.oneCell']) H63.out (by omega) _ rfl ?_; intro v4 w4 hown4 hgrow4 hat4; have HO4 : Hid (Own w4 5 1 v4 n (b.map bV)) := (by have := hown4; rw [Nat.zero_add] at this; exact this : Own w4 5 1 v4 n (b.map bV)); have HB4 := Lib.hid (Below.grown (HBR.out.alloc HBR.out.size _) hgrow4 (by simp; have := HBR.out.size; omega) (by intro k hk; simp [Value.ownBlock] at hk; rw [← hk]; exact HBR.out.size)); have HK4 : Hid (∀ k, v4.ownBlock = some k → w.heap.size ≤ k) := (fun k hk => by have := HBR.out.size; rcases hat4 with h | h; (have h' := h.symm.trans hk; simp [Value.ownBlock] at h'; omega); (have h' := h.symm.trans hk; simp at h'; omega)); have HA13 := Lib.hid (HA2.out.below HB4.out); clear hown4 hgrow4 hat4)
    | (at_builtin; refine wpList_append_rd _ rfl (.tmp 54) (.tmp 55) _ rfl 5 i0 _ 1 1 Try.underlying24 hi0 hz0 hz1 hz2 rfl (by omega) v4 n (b.map bV) rfl (by exact HO4.out) w.heap.size A2 n2 c2 (rest.map bV) rfl (by exact HA13.out) (by simp [bV, Value.oneCell']) H64.out (by omega) _ rfl ?_; intro v5 w5 hown5 hgrow5 hat5; have HO5 := Lib.hid hown5; have HB5 := Lib.hid (Below.grown HB4.out hgrow5 HB4.out.size HK4.out); obtain ⟨A5, c5, rfl, hc5, -⟩ := hown5.len_; clear hown5 hgrow5 hat5))
  have hmk5 := mark_any (b ++ rest) A5 (n + n2) c5 _ w5 (by rw [List.map_append]; exact HO5.out.rd) hc5 (Nat.le_refl _)
  have HMK5 := Lib.hid hmk5
  clear hmk5
  obtain ⟨mk5, hmk5⟩ : ∃ m, markP (b ++ rest) = m := ⟨_, rfl⟩
  rw [hmk5] at HMK5 HMM
  obtain ⟨y1, y2⟩ := mk5
  simp only at HMK5
  clear hmk5
  refine HMK5.out.mono ?_
  rintro e6 w6 ⟨rfl, hb6⟩
  have HB6 := Lib.hid (below_trans HB5.out hb6)
  clear hb6
  cases sb with
  | false =>
    go_wp2_with fail
    refine (HSR.out _ HB6.out).mono ?_
    rintro e7 w7 ⟨rfl, hb7⟩
    have HB7 := Lib.hid (below_trans HB6.out hb7)
    clear hb7
    go_wp2_with fail
    go_ret
    exact ⟨rfl, HB7.out⟩
  | true =>
    have hm := HMM.out rfl
    simp only [Prod.mk.injEq] at hm
    obtain ⟨rfl, rfl⟩ := hm
    go_wp2_with fail
    refine (HSR.out _ HB6.out).mono ?_
    rintro e7 w7 ⟨rfl, hb7⟩
    have HB7 := Lib.hid (below_trans HB6.out hb7)
    clear hb7
    go_wp2_with fail
    go_ret
    exact ⟨rfl, HB7.out⟩

set_option maxHeartbeats 2000000 in
theorem marksLaw_any (b rest : List UInt8) (A : Option Addr) (n c : Nat) (A2 : Option Addr) (n2 c2 : Nat) (w : World) (hA : Rd w w.heap.size 1 A n (b.map bV)) (hc : n ≤ c) (hA2 : Rd w w.heap.size 1 A2 n2 (rest.map bV)) :
    Calls Try.prog 6 #[.slice A n c, .slice A2 n2 c2] w fun e w' => e = .returned (.bool true) ∧ Below w.heap.size w w' := by
  by_cases h1 : n ≤ 100
  · by_cases h2 : n2 ≤ 100
    · exact marksLaw_small b rest A n c A2 n2 c2 w hA hc hA2 h1 h2
    · have i1 : ¬ (100 : Int) < (n : Int) := by omega
      have i2 : (100 : Int) < (n2 : Int) := by omega
      clear hA hA2
      go_enter Try.func6, Try.ntmps6
      go_wp2_with fail
      refine (awake_any _).mono ?_
      rintro e1 w1 ⟨rfl, hb1⟩
      have HB1 := Lib.hid hb1
      clear hb1
      go_wp2_with fail
      refine (awake_any _).mono ?_
      rintro e3 w3 ⟨rfl, hb3⟩
      have HB3 := Lib.hid (below_trans HB1.out hb3)
      clear hb3
      go_wp2_with fail
      go_ret
      exact ⟨rfl, HB3.out⟩
  · have i1 : (100 : Int) < (n : Int) := by omega
    clear hA hA2
    go_enter Try.func6, Try.ntmps6
    go_wp2_with fail
    refine (awake_any _).mono ?_
    rintro e1 w1 ⟨rfl, hb1⟩
    have HB1 := Lib.hid hb1
    clear hb1
    go_wp2_with fail
    refine (awake_any _).mono ?_
    rintro e3 w3 ⟨rfl, hb3⟩
    have HB3 := Lib.hid (below_trans HB1.out hb3)
    clear hb3
    go_wp2_with fail
    go_ret
    exact ⟨rfl, HB3.out⟩
end Go.Proofs.Ytkibjjndeimikaa
