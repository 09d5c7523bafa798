/-
  The contracts of both Texts for any kind; the document's example; no condition beyond those that each theorem states.
-/
import Derived.Test.YtoagjhhdijebmaaDecQ
import Derived.Lib.SlBytesConst
namespace Go.Proofs.Ytoagjhhdijebmaa
open Go.RowKit Go.Rb
attribute [local irreducible] Go.wpQuiet

/-- The text of octets of any kind. -/
def T (k : Int) (x : List UInt8) : List UInt8 := if 0 ≤ k ∧ k ≤ 3 then refT k x else []
theorem rtext_ok (k : Int) (x : List UInt8) (w : World) (hk : okK k) (hx : x.length ≤ 10000) :
    Calls Try.prog 14 #[.int .i64 k, .string ⟨x.toArray⟩] w fun e w' => e = .returned (.string ⟨(D k true x).1.toArray⟩) ∧ Below w.heap.size w w' := by
  by_cases h1 : k = 1
  · subst h1; exact rtext_1 x w hx
  · exact rtext_2 k x w h1 (okK_two hk h1) hx
set_option maxRecDepth 20000 in
set_option maxHeartbeats 4000000 in
theorem rtext_0 (x : List UInt8) (w : World) (hx : x.length ≤ 10000) :
    Calls Try.prog 14 #[.int .i64 0, .string ⟨x.toArray⟩] w fun e w' => e = .returned (.string ⟨(refT 0 x).toArray⟩) ∧ Below w.heap.size w w' := by
  have HM := Lib.hid (refMark_any x w (by omega))
  have hmk := mkK_ok x
  have hmd : mkK x = if (markP x).2 = 0 then (1, 0) else markP x := rfl
  have hrT : refT 0 x = (D (mkK x).1 true (x.drop (mkK x).2.toNat)).1 := by unfold refT; rw [if_pos rfl]
  have HT := Lib.hid (fun W => rtext_ok (mkK x).1 (x.drop (mkK x).2.toNat) W hmk.1 (by rw [List.length_drop]; omega))
  rw [← hrT] at HT
  generalize refT 0 x = R at *
  obtain ⟨k, hk⟩ := Int.eq_ofNat_of_zero_le hmk.2.1
  have hex := ext_mk x k
  rw [hk, Int.toNat_natCast, ← hex] at HT
  have hkl : k ≤ x.length := by have := hmk.2.2; omega
  obtain ⟨mp, hmp⟩ : ∃ m, markP x = m := ⟨_, rfl⟩
  rw [hmp] at hmd HM
  have hzx : (⟨x.toArray⟩ : ByteArray).size = x.length := rfl
  obtain ⟨lx, hlx⟩ : ∃ m, x.length = m := ⟨_, rfl⟩
  rw [hlx] at hzx HT hkl hx
  obtain ⟨m1, m2⟩ := mp
  simp only at hmd HM
  have hcs : (m2 = 0 ∧ (mkK x).1 = 1 ∧ k = 0) ∨ ((m2 == 0) = false ∧ (mkK x).1 = m1 ∧ m2 = (k : Int)) := by
    by_cases h0 : m2 = 0
    · rw [if_pos h0] at hmd
      rw [hmd] at hk ⊢
      exact .inl ⟨h0, rfl, by simp at hk; omega⟩
    · rw [if_neg h0] at hmd
      rw [hmd] at hk ⊢
      exact .inr ⟨by simpa using h0, rfl, hk⟩
  clear hmk hmd hrT hk hex hmp hlx
  generalize (mkK x).1 = kk at *
  generalize (⟨x.toArray⟩ : ByteArray) = bx at *
  have i1 : (k : Int) ≤ (lx : Int) := by omega
  have i2 : (0 : Int) ≤ (k : Int) := by omega
  rcases hcs with ⟨rfl, rfl, rfl⟩ | ⟨hm0, rfl, rfl⟩
  · go_enter Try.func14, Try.ntmps14
    go_wp2_with (go_at_call 11; refine HM.out.mono ?_; rintro e1 w1 ⟨rfl, rfl⟩)
    refine (HT.out _).mono ?_
    rintro e2 w2 ⟨rfl, hb2⟩
    have HB2 := Lib.hid hb2
    clear hb2
    go_wp2_with fail
    go_ret
    exact ⟨rfl, HB2.out⟩
  · go_enter Try.func14, Try.ntmps14
    go_wp2_with (go_at_call 11; refine HM.out.mono ?_; rintro e1 w1 ⟨rfl, rfl⟩)
    refine (HT.out _).mono ?_
    rintro e2 w2 ⟨rfl, hb2⟩
    have HB2 := Lib.hid hb2
    clear hb2
    go_wp2_with fail
    go_ret
    exact ⟨rfl, HB2.out⟩
set_option maxHeartbeats 4000000 in
theorem rtext_bad (k : Int) (s : ByteArray) (w : World) (h : k < 0 ∨ 3 < k) :
    Calls Try.prog 14 #[.int .i64 k, .string s] w fun e w' => e = .returned (.string ⟨#[]⟩) ∧ w = w' := by
  have h0 : (k == 0) = false := by rw [beq_eq_false_iff_ne]; omega
  have h1 : (k == 1) = false := by rw [beq_eq_false_iff_ne]; omega
  have h2 : (k != 2) = true := by rw [bne_iff_ne]; omega
  have h3 : (k != 3) = true := by rw [bne_iff_ne]; omega
  clear h
  go_enter Try.func14, Try.ntmps14
  go_wp2_with fail
  go_ret
  exact ⟨rfl, rfl⟩
theorem rtext_any (k : Int) (x : List UInt8) (w : World) (hx : x.length ≤ 10000) :
    Calls Try.prog 14 #[.int .i64 k, .string ⟨x.toArray⟩] w fun e w' => e = .returned (.string ⟨(T k x).toArray⟩) ∧ Below w.heap.size w w' := by
  unfold T
  by_cases h : 0 ≤ k ∧ k ≤ 3
  · rw [if_pos h]
    by_cases h0 : k = 0
    · subst h0; exact rtext_0 x w hx
    · have hr : refT k x = (D k true x).1 := by unfold refT; rw [if_neg h0]
      rw [hr]
      exact rtext_ok k x w (by unfold okK; omega) hx
  · rw [if_neg h]
    exact (rtext_bad k _ w (by omega)).mono fun e w' ⟨he, hw⟩ => ⟨he, by rw [← hw]; exact Below.refl _ _⟩
theorem dtext_any (k : Int) (x : List UInt8) (A : Option Addr) (n c : Nat) (w : World) (hr : Rd w w.heap.size 1 A n (x.map bV)) (hn : n ≤ 10000) :
    Calls Try.prog 13 #[.int .i64 k, .slice A n c] w fun e w' => e = .returned (.string ⟨(T k x).toArray⟩) ∧ Below w.heap.size w w' := by
  unfold T
  by_cases h : 0 ≤ k ∧ k ≤ 3
  · rw [if_pos h, ← textD_eq]
    exact dtext_ok k x A n c w h.1 h.2 hr hn
  · rw [if_neg h]
    exact (dtext_bad k _ w (by omega)).mono fun e w' ⟨he, hw⟩ => ⟨he, by rw [← hw]; exact Below.refl _ _⟩
theorem T_len (k : Int) (x : List UInt8) : (T k x).length ≤ 4 * x.length := by
  unfold T refT
  split
  · split
    · have := (D_len (mkK x).1 true _ (x.drop (mkK x).2.toNat) (Nat.le_refl _)).1
      rw [List.length_drop] at this
      omega
    · exact (D_len k true _ x (Nat.le_refl _)).1
  · simp
theorem T_text (k : Int) (x : List UInt8) : T 1 (T k x) = T k x := by
  have h1 : ∀ l, T 1 l = (D 1 true l).1 := fun l => by unfold T refT; rw [if_pos (by omega), if_neg (by decide)]
  rw [h1]
  have hr : ∃ rs, T k x = allPut rs := by
    unfold T refT
    split
    · split
      · obtain ⟨rs, h, _⟩ := D_puts (mkK x).1 true _ (x.drop (mkK x).2.toNat) (Nat.le_refl _); exact ⟨rs, h⟩
      · obtain ⟨rs, h, _⟩ := D_puts k true _ x (Nat.le_refl _); exact ⟨rs, h⟩
    · exact ⟨[], rfl⟩
  obtain ⟨rs, h⟩ := hr
  rw [h, D_text]

theorem aw1 : wrS ⟨0, false, [], false⟩ [226, 130] = ([], ⟨1, true, [226, 130], false⟩) := by
  have e : settleS false ⟨0, false, [226, 130], false⟩ = ⟨1, true, [226, 130], false⟩ := by
    unfold settleS
    have h1 : sureB [226, 130] = true := by decide
    have h2 : mkK [226, 130] = (1, 0) := by decide
    simp [h1, h2]
  have hd : D 1 false [226, 130] = ([], [226, 130]) := D_stop (by decide +kernel)
  unfold wrS takeS
  simp only [List.nil_append]
  rw [e]
  simp only [if_true, hd]
theorem aw2 : wrS ⟨1, true, [226, 130], false⟩ [172, 65] = ([226, 130, 172, 65], ⟨1, true, [], false⟩) := by
  have e : settleS false ⟨1, true, [226, 130, 172, 65], false⟩ = ⟨1, true, [226, 130, 172, 65], false⟩ := by unfold settleS; simp
  have s1 : stepD 1 false [226, 130, 172, 65] = (8364, 3) := by decide +kernel
  have s2 : stepD 1 false [65] = (65, 1) := by decide +kernel
  have p1 : putL 8364 = [226, 130, 172] := by decide +kernel
  have p2 : putL 65 = [65] := by decide +kernel
  have hd : D 1 false [226, 130, 172, 65] = ([226, 130, 172, 65], []) := by
    rw [D_step (by simp) (by rw [s1]; decide), s1, p1]
    have e1 : ([226, 130, 172, 65] : List UInt8).drop ((8364, 3) : Int × Int).2.toNat = [65] := rfl
    rw [e1, D_step (by simp) (by rw [s2]; decide), s2, p2]
    have e2 : ([65] : List UInt8).drop ((65, 1) : Int × Int).2.toNat = [] := rfl
    rw [e2, D_nil]; rfl
  unfold wrS takeS
  simp only [List.cons_append, List.nil_append]
  rw [e]
  simp only [if_true, hd]
theorem rd_two (W : World) (x y : UInt8) (fr : Nat × Nat) : Rd (W.alloc (.cells #[.int .u8 (x.toNat : Int), .int .u8 (y.toNat : Int)] 5 fr)) (W.heap.size + 1) 1 (some ⟨W.heap.size, 0, none⟩) 2 ([x, y].map bV) :=
  ⟨rfl, fun _ => ⟨W.heap.size, 0, rfl, by omega, fun j hj => by
    rw [Nat.zero_add, World.cell?_alloc_mark]
    match j, hj with
    | 0, _ => rfl
    | 1, _ => rfl⟩⟩
set_option maxRecDepth 20000 in
set_option maxHeartbeats 4000000 in
theorem awake_any (w : World) : Calls Try.prog 7 #[] w fun e w' => e = .returned (.bool true) ∧ Below w.heap.size w w' := by
  have HN := Lib.hid (new_ok 0 w (by decide) (by decide))
  have HW := Lib.hid (fun (p : Nat) (W : World) (B g : Nat) (hr : Rd W B 1 (some ⟨g, 0, none⟩) 2 (([226, 130] : List UInt8).map bV)) (hB : B ≤ W.heap.size) (h : Rep W p ⟨0, false, [], false⟩) => dwrite_any [226, 130] (some ⟨g, 0, none⟩) 2 2 B W h hr hB rfl (fun h => by cases h) (by simp))
  have HW2 := Lib.hid (fun (p : Nat) (W : World) (B g : Nat) (hr : Rd W B 1 (some ⟨g, 0, none⟩) 2 (([172, 65] : List UInt8).map bV)) (hB : B ≤ W.heap.size) (h : Rep W p ⟨1, true, [226, 130], false⟩) => dwrite_any [172, 65] (some ⟨g, 0, none⟩) 2 2 B W h hr hB rfl (fun _ => .inl rfl) (by simp))
  rw [aw1] at HW
  rw [aw2] at HW2
  rw [show (!decide ((0 : Int) = 0)) = false from rfl] at HN
  have kc := fun (w : World) (C : Array Value) (n c : Nat) => Lib.run_convert_bytes_const (P := Try.prog) w 22 5 C n c Try.underlying22 Try.underlying5
  unfold pp at HN HW HW2
  go_enter Try.func7, Try.ntmps7
  go_wp2_with (first
    | (go_at_call 8; refine HN.out.mono ?_; rintro e1 w1 ⟨rfl, hb1, hr1, hsz⟩; have HB1 := Lib.hid hb1; have HR1 := Lib.hid hr1; have HZ1 := Lib.hid hsz; clear hb1 hr1 hsz)
    | (go_at_call 9; have tok2 := HR1.out; go_loud (refine (HW.out _ _ _ _ (rd_two w1 226 130 _) (by simp) (tok2.below (below_al (Below.refl _ _) _) (Nat.le_refl _))).mono ?_); rintro e2 w2 ⟨rfl, hw2⟩; have HO2 := Lib.hid ((Only.of_below HB1.out).trans (((Only.refl (fun k => k = w.heap.size) w1).alloc _).trans hw2.1 (fun _ _ h => h)) (fun k hk h => by have h : k = w.heap.size := h; show w.heap.size ≤ k; omega)); have HR2 := Lib.hid hw2.2; clear hw2 HR1 tok2)
    | (go_at_call 9; go_loud (refine (HW2.out _ _ _ _ (rd_two w2 172 65 _) (by simp) (HR2.out.below (below_al (Below.refl _ _) _) (Nat.le_refl _))).mono ?_); rintro e3 w3 ⟨rfl, hw3⟩; have HO3 := Lib.hid (HO2.out.trans (((Only.refl (fun k => k = w.heap.size) w2).alloc _).trans hw3.1 (fun _ _ h => h)) (fun k hk h => by have h : k = w.heap.size := h; show w.heap.size ≤ k; omega)); clear hw3))
  go_ret
  exact ⟨rfl, HO3.out.below (Nat.le_refl _) (fun k h => h)⟩
end Go.Proofs.Ytoagjhhdijebmaa
