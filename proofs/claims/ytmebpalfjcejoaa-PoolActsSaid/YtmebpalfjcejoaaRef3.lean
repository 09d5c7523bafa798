/-
  The contracts of the functions Turn, Bytes, New of the document's pool; no condition beyond those that each theorem states.
-/
import Derived.Test.YtmebpalfjcejoaaRef2
namespace Go.Proofs.Ytmebpalfjcejoaa
open Go.RowKit Go.Rb

set_option maxRecDepth 20000 in
set_option maxHeartbeats 2000000 in
theorem rhold_any {S : Nat → Prop} {p : Nat} {s : PS} (i : Int) (w : World) (hR : RefR w S p s) (hm : hOf s i < 1000000) :
    Calls Try.prog 23 #[pp p, .int .i64 i, .int .i64 1] w fun e w' => e = .returned (.int .i64 (turnE s i)) ∧ RWent w S p (holdS s i) w' := by
  obtain ⟨hv, bv, lv, h⟩ := hR
  have hIs := is_any i w h
  unfold turnE holdS
  by_cases hh : heldB s i
  · rw [if_pos hh, if_pos hh]
    rw [decide_eq_true hh] at hIs
    obtain ⟨k, rfl, hk, h0, hb, -, ht⟩ := held_cases hh
    rw [hb] at hm ⊢
    rw [ht]
    have c0 := h.c0
    have c1 := h.c1
    have c2 := h.c2
    obtain ⟨gh, oh, caph, hvf, ch, fh, sgh, hgp⟩ := h.hform hk
    have HC := Lib.hid hIs
    have i3 : (k : Int) < (s.hs.length : Int) := by omega
    have i4 : (k : Int) < (s.bs.length : Int) := by rw [h.bl]; omega
    have h' := h.frame (T := fun _ => False) ((Only.refl _ w).drew) (fun _ _ h => h)
    have d0 : w.drew.cell? ⟨p, 0, none⟩ = some hv := c0
    have dh : w.drew.cell? ⟨gh, oh + k, none⟩ = some (.int .i64 (s.hs.getD k 0 : Nat)) := ch
    have dfh : w.drew.frozen? ⟨gh, oh + k, none⟩ = false := fh
    have key : Hid (RWent w S p { s with hs := s.hs.set k (s.hs.getD k 0 + 1) } (w.drew.setCell ⟨gh, oh + k, none⟩ (.int .i64 ((s.hs.getD k 0 + 1 : Nat) : Int)))) :=
      RWent.of (((Only.refl S w).drew).setCell (p := ⟨gh, oh + k, none⟩) (fun _ => sgh) _) (h'.setHold hvf k _ hk)
    have cx : ∀ x, (w.drew.setCell ⟨gh, oh + k, none⟩ x).cell? ⟨p, 0, none⟩ = some hv := fun x => (setCell_other (by simp [hgp]) x).trans d0
    subst hvf
    clear h h' hIs hh hb ht
    generalize s.hs.getD k 0 = m at *
    generalize s.hs.length = n at *
    rw [show ((m + 1 : Nat) : Int) = (m : Int) + 1 by omega] at key
    have hwr : IntKind.i64.wrap ((m : Int) + 1) = (m : Int) + 1 := by rw [IntKind.wrap_i64]; omega
    have i1 : ((m : Int) + 1 == 0) = false := by rw [beq_eq_false_iff_ne]; omega
    unfold pp at HC ⊢
    go_enter Try.func23, Try.ntmps23
    go_wp2_with (go_at_call 29; refine HC.out.mono ?_; rintro e1 w1 ⟨rfl, rfl⟩)
    refine region_objs (by kernel_rfl) (fun _ _ => True)
      [.val (.pointer (some ⟨p, 0, none⟩)),
       .val (.pointer (some ⟨p, 0, none⟩)),
       .val (.pointer (some ⟨p, 0, none⟩)),
       .val (.slice (some ⟨gh, oh, none⟩) n caph),
       .val (.int .i64 (k : Int)),
       .val (.pointer (some ⟨p, 0, none⟩)),
       .val (.pointer (some ⟨p, 0, none⟩)),
       .val (.pointer (some ⟨p, 0, none⟩)),
       .val (.slice (some ⟨gh, oh, none⟩) n caph),
       .val (.int .i64 (k : Int)),
       .val (.pointer (some ⟨gh, oh + k, none⟩)),
       .val (.int .i64 (m : Int)),
       .val (.int .i64 1),
       .val (.int .i64 ((m : Int) + 1)),
       .val (.pointer (some ⟨gh, oh + k, none⟩)),
       .any]
      (⟨15, fun W => W = w.drew, fun W => W = w.drew.setCell ⟨gh, oh + k, none⟩ (.int .i64 ((m : Int) + 1))⟩) (⟨15, fun _ => True, fun _ => True⟩) (fun _ => trivial) (fun _ _ _ _ _ => trivial) (by kernel_rfl) (rfl) (trivial) ⟨Nat.le_of_ble_eq_true rfl, Nat.le_of_ble_eq_true rfl⟩ ?_ ?_
    · refine ⟨?_, ?_, ?_, ?_, ?_, ?_, ?_, ?_, ?_, ?_, ?_, ?_, ?_, ?_, ?_, ?_, trivial⟩
      · intro ra RW hR hsA hsB hk hd K hK
        have SA := Lib.hid hsA
        have SB := Lib.hid hsB
        clear hsA hsB
        have hw : RW = w.drew := SA.out.early (by kernel_rfl)
        subst hw
        obtain ⟨e0, g0⟩ := hk 0 (.pointer (some ⟨p, 0, none⟩)) (by kernel_rfl) rfl
        clear hk hd
        have HR := Lib.hid hR
        clear hR
        go_simp
        exact hK _ _ (trivial) rfl (SA.out.same (Nat.ne_of_beq_eq_false rfl)) (SB.out.same (Nat.ne_of_beq_eq_false rfl))
      · intro ra RW hR hsA hsB hk hd K hK
        have SA := Lib.hid hsA
        have SB := Lib.hid hsB
        clear hsA hsB
        have hw : RW = w.drew := SA.out.early (by kernel_rfl)
        subst hw
        obtain ⟨v12, e12, g12, f12⟩ := hd 0 12 (by kernel_rfl) rfl
        have f12 : v12 = .pointer (some ⟨p, 0, none⟩) := f12
        subst f12
        clear hk hd
        have HR := Lib.hid hR
        clear hR
        go_simp
        exact hK _ _ (trivial) rfl (SA.out.same (Nat.ne_of_beq_eq_false rfl)) (SB.out.same (Nat.ne_of_beq_eq_false rfl))
      · intro ra RW hR hsA hsB hk hd K hK
        have SA := Lib.hid hsA
        have SB := Lib.hid hsB
        clear hsA hsB
        have hw : RW = w.drew := SA.out.early (by kernel_rfl)
        subst hw
        obtain ⟨v13, e13, g13, f13⟩ := hd 1 13 (by kernel_rfl) rfl
        have f13 : v13 = .pointer (some ⟨p, 0, none⟩) := f13
        subst f13
        clear hk hd
        have HR := Lib.hid hR
        clear hR
        go_simp
        exact hK _ _ (trivial) rfl (SA.out.same (Nat.ne_of_beq_eq_false rfl)) (SB.out.same (Nat.ne_of_beq_eq_false rfl))
      · intro ra RW hR hsA hsB hk hd K hK
        have SA := Lib.hid hsA
        have SB := Lib.hid hsB
        clear hsA hsB
        have hw : RW = w.drew := SA.out.early (by kernel_rfl)
        subst hw
        obtain ⟨v14, e14, g14, f14⟩ := hd 2 14 (by kernel_rfl) rfl
        have f14 : v14 = .pointer (some ⟨p, 0, none⟩) := f14
        subst f14
        clear hk hd
        have HR := Lib.hid hR
        clear hR
        go_simp
        exact hK _ _ (trivial) rfl (SA.out.same (Nat.ne_of_beq_eq_false rfl)) (SB.out.same (Nat.ne_of_beq_eq_false rfl))
      · intro ra RW hR hsA hsB hk hd K hK
        have SA := Lib.hid hsA
        have SB := Lib.hid hsB
        clear hsA hsB
        have hw : RW = w.drew := SA.out.early (by kernel_rfl)
        subst hw
        obtain ⟨e1, g1⟩ := hk 1 (.int .i64 (k : Int)) (by kernel_rfl) rfl
        clear hk hd
        have HR := Lib.hid hR
        clear hR
        go_simp
        exact hK _ _ (trivial) rfl (SA.out.same (Nat.ne_of_beq_eq_false rfl)) (SB.out.same (Nat.ne_of_beq_eq_false rfl))
      · intro ra RW hR hsA hsB hk hd K hK
        have SA := Lib.hid hsA
        have SB := Lib.hid hsB
        clear hsA hsB
        have hw : RW = w.drew := SA.out.early (by kernel_rfl)
        subst hw
        obtain ⟨e0, g0⟩ := hk 0 (.pointer (some ⟨p, 0, none⟩)) (by kernel_rfl) rfl
        clear hk hd
        have HR := Lib.hid hR
        clear hR
        go_simp
        exact hK _ _ (trivial) rfl (SA.out.same (Nat.ne_of_beq_eq_false rfl)) (SB.out.same (Nat.ne_of_beq_eq_false rfl))
      · intro ra RW hR hsA hsB hk hd K hK
        have SA := Lib.hid hsA
        have SB := Lib.hid hsB
        clear hsA hsB
        have hw : RW = w.drew := SA.out.early (by kernel_rfl)
        subst hw
        obtain ⟨v17, e17, g17, f17⟩ := hd 5 17 (by kernel_rfl) rfl
        have f17 : v17 = .pointer (some ⟨p, 0, none⟩) := f17
        subst f17
        clear hk hd
        have HR := Lib.hid hR
        clear hR
        go_simp
        exact hK _ _ (trivial) rfl (SA.out.same (Nat.ne_of_beq_eq_false rfl)) (SB.out.same (Nat.ne_of_beq_eq_false rfl))
      · intro ra RW hR hsA hsB hk hd K hK
        have SA := Lib.hid hsA
        have SB := Lib.hid hsB
        clear hsA hsB
        have hw : RW = w.drew := SA.out.early (by kernel_rfl)
        subst hw
        obtain ⟨v18, e18, g18, f18⟩ := hd 6 18 (by kernel_rfl) rfl
        have f18 : v18 = .pointer (some ⟨p, 0, none⟩) := f18
        subst f18
        clear hk hd
        have HR := Lib.hid hR
        clear hR
        go_simp
        exact hK _ _ (trivial) rfl (SA.out.same (Nat.ne_of_beq_eq_false rfl)) (SB.out.same (Nat.ne_of_beq_eq_false rfl))
      · intro ra RW hR hsA hsB hk hd K hK
        have SA := Lib.hid hsA
        have SB := Lib.hid hsB
        clear hsA hsB
        have hw : RW = w.drew := SA.out.early (by kernel_rfl)
        subst hw
        obtain ⟨v19, e19, g19, f19⟩ := hd 7 19 (by kernel_rfl) rfl
        have f19 : v19 = .pointer (some ⟨p, 0, none⟩) := f19
        subst f19
        clear hk hd
        have HR := Lib.hid hR
        clear hR
        go_simp
        exact hK _ _ (trivial) rfl (SA.out.same (Nat.ne_of_beq_eq_false rfl)) (SB.out.same (Nat.ne_of_beq_eq_false rfl))
      · intro ra RW hR hsA hsB hk hd K hK
        have SA := Lib.hid hsA
        have SB := Lib.hid hsB
        clear hsA hsB
        have hw : RW = w.drew := SA.out.early (by kernel_rfl)
        subst hw
        obtain ⟨e1, g1⟩ := hk 1 (.int .i64 (k : Int)) (by kernel_rfl) rfl
        clear hk hd
        have HR := Lib.hid hR
        clear hR
        go_simp
        exact hK _ _ (trivial) rfl (SA.out.same (Nat.ne_of_beq_eq_false rfl)) (SB.out.same (Nat.ne_of_beq_eq_false rfl))
      · intro ra RW hR hsA hsB hk hd K hK
        have SA := Lib.hid hsA
        have SB := Lib.hid hsB
        clear hsA hsB
        have hw : RW = w.drew := SA.out.early (by kernel_rfl)
        subst hw
        obtain ⟨v20, e20, g20, f20⟩ := hd 8 20 (by kernel_rfl) rfl
        have f20 : v20 = .slice (some ⟨gh, oh, none⟩) n caph := f20
        subst f20
        obtain ⟨v21, e21, g21, f21⟩ := hd 9 21 (by kernel_rfl) rfl
        have f21 : v21 = .int .i64 (k : Int) := f21
        subst f21
        clear hk hd
        have HR := Lib.hid hR
        clear hR
        go_simp
        exact hK _ _ (trivial) rfl (SA.out.same (Nat.ne_of_beq_eq_false rfl)) (SB.out.same (Nat.ne_of_beq_eq_false rfl))
      · intro ra RW hR hsA hsB hk hd K hK
        have SA := Lib.hid hsA
        have SB := Lib.hid hsB
        clear hsA hsB
        have hw : RW = w.drew := SA.out.early (by kernel_rfl)
        subst hw
        obtain ⟨v22, e22, g22, f22⟩ := hd 10 22 (by kernel_rfl) rfl
        have f22 : v22 = .pointer (some ⟨gh, oh + k, none⟩) := f22
        subst f22
        clear hk hd
        have HR := Lib.hid hR
        clear hR
        go_simp
        exact hK _ _ (trivial) rfl (SA.out.same (Nat.ne_of_beq_eq_false rfl)) (SB.out.same (Nat.ne_of_beq_eq_false rfl))
      · intro ra RW hR hsA hsB hk hd K hK
        have SA := Lib.hid hsA
        have SB := Lib.hid hsB
        clear hsA hsB
        have hw : RW = w.drew := SA.out.early (by kernel_rfl)
        subst hw
        obtain ⟨e2, g2⟩ := hk 2 (.int .i64 1) (by kernel_rfl) rfl
        clear hk hd
        have HR := Lib.hid hR
        clear hR
        go_simp
        exact hK _ _ (trivial) rfl (SA.out.same (Nat.ne_of_beq_eq_false rfl)) (SB.out.same (Nat.ne_of_beq_eq_false rfl))
      · intro ra RW hR hsA hsB hk hd K hK
        have SA := Lib.hid hsA
        have SB := Lib.hid hsB
        clear hsA hsB
        have hw : RW = w.drew := SA.out.early (by kernel_rfl)
        subst hw
        obtain ⟨v23, e23, g23, f23⟩ := hd 11 23 (by kernel_rfl) rfl
        have f23 : v23 = .int .i64 (m : Int) := f23
        subst f23
        obtain ⟨v24, e24, g24, f24⟩ := hd 12 24 (by kernel_rfl) rfl
        have f24 : v24 = .int .i64 1 := f24
        subst f24
        clear hk hd
        have HR := Lib.hid hR
        clear hR
        go_simp
        exact hK _ _ (trivial) rfl (SA.out.same (Nat.ne_of_beq_eq_false rfl)) (SB.out.same (Nat.ne_of_beq_eq_false rfl))
      · intro ra RW hR hsA hsB hk hd K hK
        have SA := Lib.hid hsA
        have SB := Lib.hid hsB
        clear hsA hsB
        have hw : RW = w.drew := SA.out.early (by kernel_rfl)
        subst hw
        obtain ⟨v15, e15, g15, f15⟩ := hd 3 15 (by kernel_rfl) rfl
        have f15 : v15 = .slice (some ⟨gh, oh, none⟩) n caph := f15
        subst f15
        obtain ⟨v16, e16, g16, f16⟩ := hd 4 16 (by kernel_rfl) rfl
        have f16 : v16 = .int .i64 (k : Int) := f16
        subst f16
        clear hk hd
        have HR := Lib.hid hR
        clear hR
        go_simp
        exact hK _ _ (trivial) rfl (SA.out.same (Nat.ne_of_beq_eq_false rfl)) (SB.out.same (Nat.ne_of_beq_eq_false rfl))
      · intro ra RW hR hsA hsB hk hd K hK
        have SA := Lib.hid hsA
        have SB := Lib.hid hsB
        clear hsA hsB
        have hw : RW = w.drew := SA.out.self rfl
        subst hw
        obtain ⟨v26, e26, g26, f26⟩ := hd 14 26 (by kernel_rfl) rfl
        have f26 : v26 = .pointer (some ⟨gh, oh + k, none⟩) := f26
        subst f26
        obtain ⟨v25, e25, g25, f25⟩ := hd 13 25 (by kernel_rfl) rfl
        have f25 : v25 = .int .i64 ((m : Int) + 1) := f25
        subst f25
        clear hk hd
        have HR := Lib.hid hR
        clear hR
        go_simp
        exact hK undef _ trivial trivial (SideOut.self rfl rfl) (SideOut.self rfl trivial)
    intro vs RW hR hpA hpB hF
    have q0 : vs 0 = .pointer (some ⟨p, 0, none⟩) := hF 0 (by decide)
    have q1 : vs 1 = .pointer (some ⟨p, 0, none⟩) := hF 1 (by decide)
    have q2 : vs 2 = .pointer (some ⟨p, 0, none⟩) := hF 2 (by decide)
    have q3 : vs 3 = .slice (some ⟨gh, oh, none⟩) n caph := hF 3 (by decide)
    have q4 : vs 4 = .int .i64 (k : Int) := hF 4 (by decide)
    have q5 : vs 5 = .pointer (some ⟨p, 0, none⟩) := hF 5 (by decide)
    have q6 : vs 6 = .pointer (some ⟨p, 0, none⟩) := hF 6 (by decide)
    have q7 : vs 7 = .pointer (some ⟨p, 0, none⟩) := hF 7 (by decide)
    have q8 : vs 8 = .slice (some ⟨gh, oh, none⟩) n caph := hF 8 (by decide)
    have q9 : vs 9 = .int .i64 (k : Int) := hF 9 (by decide)
    have q10 : vs 10 = .pointer (some ⟨gh, oh + k, none⟩) := hF 10 (by decide)
    have q11 : vs 11 = .int .i64 (m : Int) := hF 11 (by decide)
    have q12 : vs 12 = .int .i64 1 := hF 12 (by decide)
    have q13 : vs 13 = .int .i64 ((m : Int) + 1) := hF 13 (by decide)
    have q14 : vs 14 = .pointer (some ⟨gh, oh + k, none⟩) := hF 14 (by decide)
    simp only [setAll, List.setIfInBounds_toArray, List.set_cons_zero, List.set_cons_succ, q0, q1, q2, q3, q4, q5, q6, q7, q8, q9, q10, q11, q12, q13, q14]
    clear hF q0 q1 q2 q3 q4 q5 q6 q7 q8 q9 q10 q11 q12 q13 q14
    clear vs
    subst hpA
    go_wp2
    go_ret
    exact ⟨rfl, key.out⟩
  · rw [if_neg hh, if_neg hh]
    rw [decide_eq_false hh] at hIs
    have HC := Lib.hid hIs
    have H := Lib.hid h
    clear h hh hIs
    unfold pp at HC ⊢
    go_enter Try.func23, Try.ntmps23
    go_wp2_with (go_at_call 29; refine HC.out.mono ?_; rintro e1 w1 ⟨rfl, rfl⟩)
    go_ret
    exact ⟨rfl, RWent.of (Only.refl _ _) H.out⟩

set_option maxRecDepth 20000 in
set_option maxHeartbeats 4000000 in
theorem rdrop_any {S : Nat → Prop} {p : Nat} {s : PS} (i : Int) (w : World) (hR : RefR w S p s) (hm : hOf s i < 1000000) (hlen : s.ln.length < 1000000) :
    Calls Try.prog 23 #[pp p, .int .i64 i, .int .i64 (-1)] w fun e w' => e = .returned (.int .i64 (turnE s i)) ∧ RWent w S p (dropS s i) w' := by
  obtain ⟨i0, hi0, hz0, hz1, hz2⟩ := info_parts info3
  obtain ⟨hv, bv, lv, h⟩ := hR
  have hIs := is_any i w h
  unfold turnE dropS
  by_cases hh : heldB s i
  · rw [if_pos hh, if_pos hh]
    rw [decide_eq_true hh] at hIs
    obtain ⟨k, rfl, hk, h0, hb, -, ht⟩ := held_cases hh
    rw [hb] at hm ⊢
    rw [ht]
    have c0 := h.c0
    have c1 := h.c1
    have c2 := h.c2
    obtain ⟨gh, oh, caph, hvf, ch, fh, sgh, hgp⟩ := h.hform hk
    have HC := Lib.hid hIs
    have i3 : (k : Int) < (s.hs.length : Int) := by omega
    have i4 : (k : Int) < (s.bs.length : Int) := by rw [h.bl]; omega
    have h' := h.frame (T := fun _ => False) ((Only.refl _ w).drew) (fun _ _ h => h)
    have d0 : w.drew.cell? ⟨p, 0, none⟩ = some hv := c0
    have dh : w.drew.cell? ⟨gh, oh + k, none⟩ = some (.int .i64 (s.hs.getD k 0 : Nat)) := ch
    have dfh : w.drew.frozen? ⟨gh, oh + k, none⟩ = false := fh
    by_cases h1 : s.hs.getD k 0 = 1
    · rw [if_pos h1]
      have R1 := h'.setHold hvf k 0 hk
      have hkb : k < s.bs.length := by rw [h.bl]; exact hk
      obtain ⟨gb, ob, capb, bvf, cb, fb, sgb, bgp⟩ := h.bform hk
      have hgb : gh ≠ gb := fun e => own_ne' h.ho h.bo (by decide) gh (by rw [hvf]; rfl) (by rw [bvf, e]; rfl)
      have db : w.drew.cell? ⟨gb, ob + k, none⟩ = some (.string ⟨(s.bs.getD k []).toArray⟩) := cb
      have R2 := R1.setBuf bvf k hkb []
      have O2 : Only S w ((w.drew.setCell ⟨gh, oh + k, none⟩ (.int .i64 ((0 : Nat) : Int))).setCell ⟨gb, ob + k, none⟩ (.string ⟨([] : List UInt8).toArray⟩)) :=
        (((Only.refl S w).drew).setCell (p := ⟨gh, oh + k, none⟩) (fun _ => sgh) _).setCell (p := ⟨gb, ob + k, none⟩) (fun _ => sgb) _
      have e1 : (w.drew.setCell ⟨gh, oh + k, none⟩ (.int .i64 0)).cell? ⟨p, 0, none⟩ = some hv := R1.c0
      have e2 : (w.drew.setCell ⟨gh, oh + k, none⟩ (.int .i64 0)).cell? ⟨gh, oh + k, none⟩ = some (.int .i64 0) := World.cell?_setCell_same _ _ _ dh
      have e3 : (w.drew.setCell ⟨gh, oh + k, none⟩ (.int .i64 0)).cell? ⟨p, 1, none⟩ = some bv := R1.c1
      have e4 : (w.drew.setCell ⟨gh, oh + k, none⟩ (.int .i64 0)).cell? ⟨gb, ob + k, none⟩ = some (.string ⟨(s.bs.getD k []).toArray⟩) := (setCell_other (by simp [hgb]) _).trans db
      have e6 : ((w.drew.setCell ⟨gh, oh + k, none⟩ (.int .i64 0)).setCell ⟨gb, ob + k, none⟩ (.string ⟨#[]⟩)).cell? ⟨p, 2, none⟩ = some lv := R2.c2
      have R2' : RefA ((w.drew.setCell ⟨gh, oh + k, none⟩ (.int .i64 0)).setCell ⟨gb, ob + k, none⟩ (.string ⟨#[]⟩)) S p hv bv lv { s with hs := s.hs.set k 0, bs := s.bs.set k [] } := R2
      have O2' : Only S w ((w.drew.setCell ⟨gh, oh + k, none⟩ (.int .i64 0)).setCell ⟨gb, ob + k, none⟩ (.string ⟨#[]⟩)) := O2
      have hlo := R2'.lo
      generalize hW2 : (w.drew.setCell ⟨gh, oh + k, none⟩ (.int .i64 0)).setCell ⟨gb, ob + k, none⟩ (.string ⟨#[]⟩) = W2 at *
      obtain ⟨A, cap, hlv, -, -⟩ := hlo.len_
      have hrl : Rd W2 W2.heap.size 1 A s.ln.length (s.ln.map nV) := by rw [hlv] at hlo; exact hlo.rd
      have key : Hid (∀ w4 g o c w3, W2.grownBy w3 none → (∀ vb : Value, (vb.ownBlock = none ∨ vb.ownBlock = some W2.heap.size) → ∀ x, (w3.alloc x).grownBy w4 vb.ownBlock → (vb.ownBlock = some g ∨ g = (w3.alloc x).heap.size) →
          Own w4 3 1 (.slice (some ⟨g, o, none⟩) (s.ln.length + 1) c) (s.ln.length + 1) (s.ln.map nV ++ [nV k]) →
          w4.cell? ⟨p, 2, none⟩ = some lv ∧ w4.frozen? ⟨p, 2, none⟩ = false ∧ Hid (RWent w S p { s with hs := s.hs.set k 0, bs := s.bs.set k [], ln := s.ln ++ [k] } (w4.setCell ⟨p, 2, none⟩ (.slice (some ⟨g, o, none⟩) (s.ln.length + 1) c))))) := by
        intro w4 g o c w3 hg1 vb hvb x hg2 hat hown
        have O3 : Only (fun q => W2.heap.size ≤ q) W2 w3 := (Only.refl _ W2).grown hg1 (fun q hq => by simp at hq)
        have O4 : Only (fun q => W2.heap.size ≤ q) W2 w4 := (O3.alloc x).grown hg2 (fun q hq _ => by
          rcases hvb with hvb | hvb
          · rw [hvb] at hq; simp at hq
          · rw [hvb] at hq; injection hq with hq; omega)
        have hgn : W2.heap.size ≤ g := by
          rcases hat with hat | hat
          · rcases hvb with hvb | hvb
            · rw [hvb] at hat; simp at hat
            · rw [hvb] at hat; injection hat with hat; omega
          · have := hg1.size; rw [hat]; simp; omega
        have R4 := R2'.newLine O4 (.slice (some ⟨g, o, none⟩) (s.ln.length + 1) c) (s.ln ++ [k]) (by simpa using hown) (fun q hq => by
          have e : g = q := by simpa [Value.ownBlock] using hq
          omega)
        have R5 := R2'.frame O4 (fun q hq => by have := R2'.lt q hq; omega)
        refine ⟨R5.c2, R5.pb.frozen 2, ?_⟩
        have hsz : W2.heap.size = w.heap.size := by rw [← hW2]; simp only [World.setCell, Array.size_modify]; rfl
        refine ⟨Only.setCell (p := ⟨p, 2, none⟩) (O2'.trans O4 (fun q hq hge => by omega)) (fun _ => h.sp) _, hv, bv, _, R4.mono (fun q hq => ?_) (fun q hq => ?_)⟩
        · rcases hq with hq | hq
          · exact .inl hq
          · exact .inr ⟨by omega, hq.2⟩
        · rcases hq with hq | hq
          · exact R4.lt q (.inl hq)
          · exact hq.2
      have HRL := Lib.hid hrl
      subst hvf bvf hlv hW2
      clear h h' hIs hh hb ht R1 R2 O2 hlo hrl R2' O2'
      rw [h1] at ch dh
      simp only [Int.natCast_one] at ch dh
      generalize s.bs.getD k [] = b0 at *
      generalize s.ln.length = nl at *
      generalize hxs : s.ln.map nV = xs at *
      generalize s.hs.length = n at *
      generalize s.bs.length = nb at *
      unfold pp at HC ⊢
      go_enter Try.func23, Try.ntmps23
      go_wp2_with (go_at_call 29; refine HC.out.mono ?_; rintro e1 w1 ⟨rfl, rfl⟩)
      refine region_objs (by kernel_rfl) (fun _ _ => True)
        [.val (.pointer (some ⟨p, 0, none⟩)),
         .val (.pointer (some ⟨p, 0, none⟩)),
         .val (.pointer (some ⟨p, 0, none⟩)),
         .val (.slice (some ⟨gh, oh, none⟩) n caph),
         .val (.int .i64 (k : Int)),
         .val (.pointer (some ⟨p, 0, none⟩)),
         .val (.pointer (some ⟨p, 0, none⟩)),
         .val (.pointer (some ⟨p, 0, none⟩)),
         .val (.slice (some ⟨gh, oh, none⟩) n caph),
         .val (.int .i64 (k : Int)),
         .val (.pointer (some ⟨gh, oh + k, none⟩)),
         .val (.int .i64 1),
         .val (.int .i64 (-1)),
         .val (.int .i64 0),
         .val (.pointer (some ⟨gh, oh + k, none⟩)),
         .any]
        (⟨15, fun W => W = w.drew, fun W => W = w.drew.setCell ⟨gh, oh + k, none⟩ (.int .i64 0)⟩) (⟨15, fun _ => True, fun _ => True⟩) (fun _ => trivial) (fun _ _ _ _ _ => trivial) (by kernel_rfl) (rfl) (trivial) ⟨Nat.le_of_ble_eq_true rfl, Nat.le_of_ble_eq_true rfl⟩ ?_ ?_
      · refine ⟨?_, ?_, ?_, ?_, ?_, ?_, ?_, ?_, ?_, ?_, ?_, ?_, ?_, ?_, ?_, ?_, trivial⟩
        · intro ra RW hR hsA hsB hk hd K hK
          have SA := Lib.hid hsA
          have SB := Lib.hid hsB
          clear hsA hsB
          have hw : RW = w.drew := SA.out.early (by kernel_rfl)
          subst hw
          obtain ⟨e0, g0⟩ := hk 0 (.pointer (some ⟨p, 0, none⟩)) (by kernel_rfl) rfl
          clear hk hd
          have HR := Lib.hid hR
          clear hR
          go_simp
          exact hK _ _ (trivial) rfl (SA.out.same (Nat.ne_of_beq_eq_false rfl)) (SB.out.same (Nat.ne_of_beq_eq_false rfl))
        · intro ra RW hR hsA hsB hk hd K hK
          have SA := Lib.hid hsA
          have SB := Lib.hid hsB
          clear hsA hsB
          have hw : RW = w.drew := SA.out.early (by kernel_rfl)
          subst hw
          obtain ⟨v12, e12, g12, f12⟩ := hd 0 12 (by kernel_rfl) rfl
          have f12 : v12 = .pointer (some ⟨p, 0, none⟩) := f12
          subst f12
          clear hk hd
          have HR := Lib.hid hR
          clear hR
          go_simp
          exact hK _ _ (trivial) rfl (SA.out.same (Nat.ne_of_beq_eq_false rfl)) (SB.out.same (Nat.ne_of_beq_eq_false rfl))
        · intro ra RW hR hsA hsB hk hd K hK
          have SA := Lib.hid hsA
          have SB := Lib.hid hsB
          clear hsA hsB
          have hw : RW = w.drew := SA.out.early (by kernel_rfl)
          subst hw
          obtain ⟨v13, e13, g13, f13⟩ := hd 1 13 (by kernel_rfl) rfl
          have f13 : v13 = .pointer (some ⟨p, 0, none⟩) := f13
          subst f13
          clear hk hd
          have HR := Lib.hid hR
          clear hR
          go_simp
          exact hK _ _ (trivial) rfl (SA.out.same (Nat.ne_of_beq_eq_false rfl)) (SB.out.same (Nat.ne_of_beq_eq_false rfl))
        · intro ra RW hR hsA hsB hk hd K hK
          have SA := Lib.hid hsA
          have SB := Lib.hid hsB
          clear hsA hsB
          have hw : RW = w.drew := SA.out.early (by kernel_rfl)
          subst hw
          obtain ⟨v14, e14, g14, f14⟩ := hd 2 14 (by kernel_rfl) rfl
          have f14 : v14 = .pointer (some ⟨p, 0, none⟩) := f14
          subst f14
          clear hk hd
          have HR := Lib.hid hR
          clear hR
          go_simp
          exact hK _ _ (trivial) rfl (SA.out.same (Nat.ne_of_beq_eq_false rfl)) (SB.out.same (Nat.ne_of_beq_eq_false rfl))
        · intro ra RW hR hsA hsB hk hd K hK
          have SA := Lib.hid hsA
          have SB := Lib.hid hsB
          clear hsA hsB
          have hw : RW = w.drew := SA.out.early (by kernel_rfl)
          subst hw
          obtain ⟨e1, g1⟩ := hk 1 (.int .i64 (k : Int)) (by kernel_rfl) rfl
          clear hk hd
          have HR := Lib.hid hR
          clear hR
          go_simp
          exact hK _ _ (trivial) rfl (SA.out.same (Nat.ne_of_beq_eq_false rfl)) (SB.out.same (Nat.ne_of_beq_eq_false rfl))
        · intro ra RW hR hsA hsB hk hd K hK
          have SA := Lib.hid hsA
          have SB := Lib.hid hsB
          clear hsA hsB
          have hw : RW = w.drew := SA.out.early (by kernel_rfl)
          subst hw
          obtain ⟨e0, g0⟩ := hk 0 (.pointer (some ⟨p, 0, none⟩)) (by kernel_rfl) rfl
          clear hk hd
          have HR := Lib.hid hR
          clear hR
          go_simp
          exact hK _ _ (trivial) rfl (SA.out.same (Nat.ne_of_beq_eq_false rfl)) (SB.out.same (Nat.ne_of_beq_eq_false rfl))
        · intro ra RW hR hsA hsB hk hd K hK
          have SA := Lib.hid hsA
          have SB := Lib.hid hsB
          clear hsA hsB
          have hw : RW = w.drew := SA.out.early (by kernel_rfl)
          subst hw
          obtain ⟨v17, e17, g17, f17⟩ := hd 5 17 (by kernel_rfl) rfl
          have f17 : v17 = .pointer (some ⟨p, 0, none⟩) := f17
          subst f17
          clear hk hd
          have HR := Lib.hid hR
          clear hR
          go_simp
          exact hK _ _ (trivial) rfl (SA.out.same (Nat.ne_of_beq_eq_false rfl)) (SB.out.same (Nat.ne_of_beq_eq_false rfl))
        · intro ra RW hR hsA hsB hk hd K hK
          have SA := Lib.hid hsA
          have SB := Lib.hid hsB
          clear hsA hsB
          have hw : RW = w.drew := SA.out.early (by kernel_rfl)
          subst hw
          obtain ⟨v18, e18, g18, f18⟩ := hd 6 18 (by kernel_rfl) rfl
          have f18 : v18 = .pointer (some ⟨p, 0, none⟩) := f18
          subst f18
          clear hk hd
          have HR := Lib.hid hR
          clear hR
          go_simp
          exact hK _ _ (trivial) rfl (SA.out.same (Nat.ne_of_beq_eq_false rfl)) (SB.out.same (Nat.ne_of_beq_eq_false rfl))
        · intro ra RW hR hsA hsB hk hd K hK
          have SA := Lib.hid hsA
          have SB := Lib.hid hsB
          clear hsA hsB
          have hw : RW = w.drew := SA.out.early (by kernel_rfl)
          subst hw
          obtain ⟨v19, e19, g19, f19⟩ := hd 7 19 (by kernel_rfl) rfl
          have f19 : v19 = .pointer (some ⟨p, 0, none⟩) := f19
          subst f19
          clear hk hd
          have HR := Lib.hid hR
          clear hR
          go_simp
          exact hK _ _ (trivial) rfl (SA.out.same (Nat.ne_of_beq_eq_false rfl)) (SB.out.same (Nat.ne_of_beq_eq_false rfl))
        · intro ra RW hR hsA hsB hk hd K hK
          have SA := Lib.hid hsA
          have SB := Lib.hid hsB
          clear hsA hsB
          have hw : RW = w.drew := SA.out.early (by kernel_rfl)
          subst hw
          obtain ⟨e1, g1⟩ := hk 1 (.int .i64 (k : Int)) (by kernel_rfl) rfl
          clear hk hd
          have HR := Lib.hid hR
          clear hR
          go_simp
          exact hK _ _ (trivial) rfl (SA.out.same (Nat.ne_of_beq_eq_false rfl)) (SB.out.same (Nat.ne_of_beq_eq_false rfl))
        · intro ra RW hR hsA hsB hk hd K hK
          have SA := Lib.hid hsA
          have SB := Lib.hid hsB
          clear hsA hsB
          have hw : RW = w.drew := SA.out.early (by kernel_rfl)
          subst hw
          obtain ⟨v20, e20, g20, f20⟩ := hd 8 20 (by kernel_rfl) rfl
          have f20 : v20 = .slice (some ⟨gh, oh, none⟩) n caph := f20
          subst f20
          obtain ⟨v21, e21, g21, f21⟩ := hd 9 21 (by kernel_rfl) rfl
          have f21 : v21 = .int .i64 (k : Int) := f21
          subst f21
          clear hk hd
          have HR := Lib.hid hR
          clear hR
          go_simp
          exact hK _ _ (trivial) rfl (SA.out.same (Nat.ne_of_beq_eq_false rfl)) (SB.out.same (Nat.ne_of_beq_eq_false rfl))
        · intro ra RW hR hsA hsB hk hd K hK
          have SA := Lib.hid hsA
          have SB := Lib.hid hsB
          clear hsA hsB
          have hw : RW = w.drew := SA.out.early (by kernel_rfl)
          subst hw
          obtain ⟨v22, e22, g22, f22⟩ := hd 10 22 (by kernel_rfl) rfl
          have f22 : v22 = .pointer (some ⟨gh, oh + k, none⟩) := f22
          subst f22
          clear hk hd
          have HR := Lib.hid hR
          clear hR
          go_simp
          exact hK _ _ (trivial) rfl (SA.out.same (Nat.ne_of_beq_eq_false rfl)) (SB.out.same (Nat.ne_of_beq_eq_false rfl))
        · intro ra RW hR hsA hsB hk hd K hK
          have SA := Lib.hid hsA
          have SB := Lib.hid hsB
          clear hsA hsB
          have hw : RW = w.drew := SA.out.early (by kernel_rfl)
          subst hw
          obtain ⟨e2, g2⟩ := hk 2 (.int .i64 (-1)) (by kernel_rfl) rfl
          clear hk hd
          have HR := Lib.hid hR
          clear hR
          go_simp
          exact hK _ _ (trivial) rfl (SA.out.same (Nat.ne_of_beq_eq_false rfl)) (SB.out.same (Nat.ne_of_beq_eq_false rfl))
        · intro ra RW hR hsA hsB hk hd K hK
          have SA := Lib.hid hsA
          have SB := Lib.hid hsB
          clear hsA hsB
          have hw : RW = w.drew := SA.out.early (by kernel_rfl)
          subst hw
          obtain ⟨v23, e23, g23, f23⟩ := hd 11 23 (by kernel_rfl) rfl
          have f23 : v23 = .int .i64 1 := f23
          subst f23
          obtain ⟨v24, e24, g24, f24⟩ := hd 12 24 (by kernel_rfl) rfl
          have f24 : v24 = .int .i64 (-1) := f24
          subst f24
          clear hk hd
          have HR := Lib.hid hR
          clear hR
          go_simp
          exact hK _ _ (trivial) rfl (SA.out.same (Nat.ne_of_beq_eq_false rfl)) (SB.out.same (Nat.ne_of_beq_eq_false rfl))
        · intro ra RW hR hsA hsB hk hd K hK
          have SA := Lib.hid hsA
          have SB := Lib.hid hsB
          clear hsA hsB
          have hw : RW = w.drew := SA.out.early (by kernel_rfl)
          subst hw
          obtain ⟨v15, e15, g15, f15⟩ := hd 3 15 (by kernel_rfl) rfl
          have f15 : v15 = .slice (some ⟨gh, oh, none⟩) n caph := f15
          subst f15
          obtain ⟨v16, e16, g16, f16⟩ := hd 4 16 (by kernel_rfl) rfl
          have f16 : v16 = .int .i64 (k : Int) := f16
          subst f16
          clear hk hd
          have HR := Lib.hid hR
          clear hR
          go_simp
          exact hK _ _ (trivial) rfl (SA.out.same (Nat.ne_of_beq_eq_false rfl)) (SB.out.same (Nat.ne_of_beq_eq_false rfl))
        · intro ra RW hR hsA hsB hk hd K hK
          have SA := Lib.hid hsA
          have SB := Lib.hid hsB
          clear hsA hsB
          have hw : RW = w.drew := SA.out.self rfl
          subst hw
          obtain ⟨v26, e26, g26, f26⟩ := hd 14 26 (by kernel_rfl) rfl
          have f26 : v26 = .pointer (some ⟨gh, oh + k, none⟩) := f26
          subst f26
          obtain ⟨v25, e25, g25, f25⟩ := hd 13 25 (by kernel_rfl) rfl
          have f25 : v25 = .int .i64 0 := f25
          subst f25
          clear hk hd
          have HR := Lib.hid hR
          clear hR
          go_simp
          exact hK undef _ trivial trivial (SideOut.self rfl rfl) (SideOut.self rfl trivial)
      intro vs RW hR hpA hpB hF
      have q0 : vs 0 = .pointer (some ⟨p, 0, none⟩) := hF 0 (by decide)
      have q1 : vs 1 = .pointer (some ⟨p, 0, none⟩) := hF 1 (by decide)
      have q2 : vs 2 = .pointer (some ⟨p, 0, none⟩) := hF 2 (by decide)
      have q3 : vs 3 = .slice (some ⟨gh, oh, none⟩) n caph := hF 3 (by decide)
      have q4 : vs 4 = .int .i64 (k : Int) := hF 4 (by decide)
      have q5 : vs 5 = .pointer (some ⟨p, 0, none⟩) := hF 5 (by decide)
      have q6 : vs 6 = .pointer (some ⟨p, 0, none⟩) := hF 6 (by decide)
      have q7 : vs 7 = .pointer (some ⟨p, 0, none⟩) := hF 7 (by decide)
      have q8 : vs 8 = .slice (some ⟨gh, oh, none⟩) n caph := hF 8 (by decide)
      have q9 : vs 9 = .int .i64 (k : Int) := hF 9 (by decide)
      have q10 : vs 10 = .pointer (some ⟨gh, oh + k, none⟩) := hF 10 (by decide)
      have q11 : vs 11 = .int .i64 1 := hF 11 (by decide)
      have q12 : vs 12 = .int .i64 (-1) := hF 12 (by decide)
      have q13 : vs 13 = .int .i64 0 := hF 13 (by decide)
      have q14 : vs 14 = .pointer (some ⟨gh, oh + k, none⟩) := hF 14 (by decide)
      simp only [setAll, List.setIfInBounds_toArray, List.set_cons_zero, List.set_cons_succ, q0, q1, q2, q3, q4, q5, q6, q7, q8, q9, q10, q11, q12, q13, q14]
      clear hF q0 q1 q2 q3 q4 q5 q6 q7 q8 q9 q10 q11 q12 q13 q14
      clear vs
      subst hpA
      go_wp2_with (first
        | (at_builtin; go_loud (refine wpList_append_mine _ rfl (.tmp 48) (.tmp 50) _ rfl 3 i0 _ 1 8 Try.underlying30 hi0 hz0 hz1 hz2 rfl (by omega) v3 nl xs rfl (by exact HO3.out.alloc _) _ 1 1 [_] rfl rfl (by exact news_push rfl rfl) (by simp [Value.oneCell']) (by omega) (by simp only [maxLen]; omega) (by omega) _ rfl ?_; intro g4 o4 c4 w4 hown4 hgrow4 hat4; obtain ⟨cc, ff, HK⟩ := key.out w4 g4 o4 c4 w3 hgrow3 v3 hat3 _ hgrow4 hat4 hown4; clear hown4 hgrow4 hat4))
        | (at_builtin; go_loud (refine wpList_append_rd _ rfl (.tmp 41) (.tmp 45) _ rfl 3 i0 _ 1 8 Try.underlying30 hi0 hz0 hz1 hz2 rfl (by omega) (.slice none 0 0) 0 [] rfl (by exact Own.nil_ _ _ _) _ A nl cap xs rfl (by exact HRL.out) (by rw [← hxs]; simp [nV, Value.oneCell']) (by simp only [maxLen]; omega) (by omega) _ rfl ?_; intro v3 w3 hown3 hgrow3 hat3; have ho3' : Own w3 3 1 v3 nl xs := (by simpa using hown3); have HO3 := Lib.hid ho3'; clear ho3')))
      go_ret
      exact ⟨rfl, HK.out⟩
    · rw [if_neg h1]
      have key : Hid (RWent w S p { s with hs := s.hs.set k (s.hs.getD k 0 - 1) } (w.drew.setCell ⟨gh, oh + k, none⟩ (.int .i64 ((s.hs.getD k 0 - 1 : Nat) : Int)))) :=
        RWent.of (((Only.refl S w).drew).setCell (p := ⟨gh, oh + k, none⟩) (fun _ => sgh) _) (h'.setHold hvf k _ hk)
      have cx : ∀ x, (w.drew.setCell ⟨gh, oh + k, none⟩ x).cell? ⟨p, 0, none⟩ = some hv := fun x => (setCell_other (by simp [hgp]) x).trans d0
      subst hvf
      clear h h' hIs hh hb ht
      generalize s.hs.getD k 0 = m at *
      generalize s.hs.length = n at *
      rw [show ((m - 1 : Nat) : Int) = (m : Int) + -1 by omega] at key
      have hwr : IntKind.i64.wrap ((m : Int) + -1) = (m : Int) + -1 := by rw [IntKind.wrap_i64]; omega
      have i1 : ((m : Int) + -1 == 0) = false := by rw [beq_eq_false_iff_ne]; omega
      unfold pp at HC ⊢
      go_enter Try.func23, Try.ntmps23
      go_wp2_with (go_at_call 29; refine HC.out.mono ?_; rintro e1 w1 ⟨rfl, rfl⟩)
      refine region_objs (by kernel_rfl) (fun _ _ => True)
        [.val (.pointer (some ⟨p, 0, none⟩)),
         .val (.pointer (some ⟨p, 0, none⟩)),
         .val (.pointer (some ⟨p, 0, none⟩)),
         .val (.slice (some ⟨gh, oh, none⟩) n caph),
         .val (.int .i64 (k : Int)),
         .val (.pointer (some ⟨p, 0, none⟩)),
         .val (.pointer (some ⟨p, 0, none⟩)),
         .val (.pointer (some ⟨p, 0, none⟩)),
         .val (.slice (some ⟨gh, oh, none⟩) n caph),
         .val (.int .i64 (k : Int)),
         .val (.pointer (some ⟨gh, oh + k, none⟩)),
         .val (.int .i64 (m : Int)),
         .val (.int .i64 (-1)),
         .val (.int .i64 ((m : Int) + -1)),
         .val (.pointer (some ⟨gh, oh + k, none⟩)),
         .any]
        (⟨15, fun W => W = w.drew, fun W => W = w.drew.setCell ⟨gh, oh + k, none⟩ (.int .i64 ((m : Int) + -1))⟩) (⟨15, fun _ => True, fun _ => True⟩) (fun _ => trivial) (fun _ _ _ _ _ => trivial) (by kernel_rfl) (rfl) (trivial) ⟨Nat.le_of_ble_eq_true rfl, Nat.le_of_ble_eq_true rfl⟩ ?_ ?_
      · refine ⟨?_, ?_, ?_, ?_, ?_, ?_, ?_, ?_, ?_, ?_, ?_, ?_, ?_, ?_, ?_, ?_, trivial⟩
        · intro ra RW hR hsA hsB hk hd K hK
          have SA := Lib.hid hsA
          have SB := Lib.hid hsB
          clear hsA hsB
          have hw : RW = w.drew := SA.out.early (by kernel_rfl)
          subst hw
          obtain ⟨e0, g0⟩ := hk 0 (.pointer (some ⟨p, 0, none⟩)) (by kernel_rfl) rfl
          clear hk hd
          have HR := Lib.hid hR
          clear hR
          go_simp
          exact hK _ _ (trivial) rfl (SA.out.same (Nat.ne_of_beq_eq_false rfl)) (SB.out.same (Nat.ne_of_beq_eq_false rfl))
        · intro ra RW hR hsA hsB hk hd K hK
          have SA := Lib.hid hsA
          have SB := Lib.hid hsB
          clear hsA hsB
          have hw : RW = w.drew := SA.out.early (by kernel_rfl)
          subst hw
          obtain ⟨v12, e12, g12, f12⟩ := hd 0 12 (by kernel_rfl) rfl
          have f12 : v12 = .pointer (some ⟨p, 0, none⟩) := f12
          subst f12
          clear hk hd
          have HR := Lib.hid hR
          clear hR
          go_simp
          exact hK _ _ (trivial) rfl (SA.out.same (Nat.ne_of_beq_eq_false rfl)) (SB.out.same (Nat.ne_of_beq_eq_false rfl))
        · intro ra RW hR hsA hsB hk hd K hK
          have SA := Lib.hid hsA
          have SB := Lib.hid hsB
          clear hsA hsB
          have hw : RW = w.drew := SA.out.early (by kernel_rfl)
          subst hw
          obtain ⟨v13, e13, g13, f13⟩ := hd 1 13 (by kernel_rfl) rfl
          have f13 : v13 = .pointer (some ⟨p, 0, none⟩) := f13
          subst f13
          clear hk hd
          have HR := Lib.hid hR
          clear hR
          go_simp
          exact hK _ _ (trivial) rfl (SA.out.same (Nat.ne_of_beq_eq_false rfl)) (SB.out.same (Nat.ne_of_beq_eq_false rfl))
        · intro ra RW hR hsA hsB hk hd K hK
          have SA := Lib.hid hsA
          have SB := Lib.hid hsB
          clear hsA hsB
          have hw : RW = w.drew := SA.out.early (by kernel_rfl)
          subst hw
          obtain ⟨v14, e14, g14, f14⟩ := hd 2 14 (by kernel_rfl) rfl
          have f14 : v14 = .pointer (some ⟨p, 0, none⟩) := f14
          subst f14
          clear hk hd
          have HR := Lib.hid hR
          clear hR
          go_simp
          exact hK _ _ (trivial) rfl (SA.out.same (Nat.ne_of_beq_eq_false rfl)) (SB.out.same (Nat.ne_of_beq_eq_false rfl))
        · intro ra RW hR hsA hsB hk hd K hK
          have SA := Lib.hid hsA
          have SB := Lib.hid hsB
          clear hsA hsB
          have hw : RW = w.drew := SA.out.early (by kernel_rfl)
          subst hw
          obtain ⟨e1, g1⟩ := hk 1 (.int .i64 (k : Int)) (by kernel_rfl) rfl
          clear hk hd
          have HR := Lib.hid hR
          clear hR
          go_simp
          exact hK _ _ (trivial) rfl (SA.out.same (Nat.ne_of_beq_eq_false rfl)) (SB.out.same (Nat.ne_of_beq_eq_false rfl))
        · intro ra RW hR hsA hsB hk hd K hK
          have SA := Lib.hid hsA
          have SB := Lib.hid hsB
          clear hsA hsB
          have hw : RW = w.drew := SA.out.early (by kernel_rfl)
          subst hw
          obtain ⟨e0, g0⟩ := hk 0 (.pointer (some ⟨p, 0, none⟩)) (by kernel_rfl) rfl
          clear hk hd
          have HR := Lib.hid hR
          clear hR
          go_simp
          exact hK _ _ (trivial) rfl (SA.out.same (Nat.ne_of_beq_eq_false rfl)) (SB.out.same (Nat.ne_of_beq_eq_false rfl))
        · intro ra RW hR hsA hsB hk hd K hK
          have SA := Lib.hid hsA
          have SB := Lib.hid hsB
          clear hsA hsB
          have hw : RW = w.drew := SA.out.early (by kernel_rfl)
          subst hw
          obtain ⟨v17, e17, g17, f17⟩ := hd 5 17 (by kernel_rfl) rfl
          have f17 : v17 = .pointer (some ⟨p, 0, none⟩) := f17
          subst f17
          clear hk hd
          have HR := Lib.hid hR
          clear hR
          go_simp
          exact hK _ _ (trivial) rfl (SA.out.same (Nat.ne_of_beq_eq_false rfl)) (SB.out.same (Nat.ne_of_beq_eq_false rfl))
        · intro ra RW hR hsA hsB hk hd K hK
          have SA := Lib.hid hsA
          have SB := Lib.hid hsB
          clear hsA hsB
          have hw : RW = w.drew := SA.out.early (by kernel_rfl)
          subst hw
          obtain ⟨v18, e18, g18, f18⟩ := hd 6 18 (by kernel_rfl) rfl
          have f18 : v18 = .pointer (some ⟨p, 0, none⟩) := f18
          subst f18
          clear hk hd
          have HR := Lib.hid hR
          clear hR
          go_simp
          exact hK _ _ (trivial) rfl (SA.out.same (Nat.ne_of_beq_eq_false rfl)) (SB.out.same (Nat.ne_of_beq_eq_false rfl))
        · intro ra RW hR hsA hsB hk hd K hK
          have SA := Lib.hid hsA
          have SB := Lib.hid hsB
          clear hsA hsB
          have hw : RW = w.drew := SA.out.early (by kernel_rfl)
          subst hw
          obtain ⟨v19, e19, g19, f19⟩ := hd 7 19 (by kernel_rfl) rfl
          have f19 : v19 = .pointer (some ⟨p, 0, none⟩) := f19
          subst f19
          clear hk hd
          have HR := Lib.hid hR
          clear hR
          go_simp
          exact hK _ _ (trivial) rfl (SA.out.same (Nat.ne_of_beq_eq_false rfl)) (SB.out.same (Nat.ne_of_beq_eq_false rfl))
        · intro ra RW hR hsA hsB hk hd K hK
          have SA := Lib.hid hsA
          have SB := Lib.hid hsB
          clear hsA hsB
          have hw : RW = w.drew := SA.out.early (by kernel_rfl)
          subst hw
          obtain ⟨e1, g1⟩ := hk 1 (.int .i64 (k : Int)) (by kernel_rfl) rfl
          clear hk hd
          have HR := Lib.hid hR
          clear hR
          go_simp
          exact hK _ _ (trivial) rfl (SA.out.same (Nat.ne_of_beq_eq_false rfl)) (SB.out.same (Nat.ne_of_beq_eq_false rfl))
        · intro ra RW hR hsA hsB hk hd K hK
          have SA := Lib.hid hsA
          have SB := Lib.hid hsB
          clear hsA hsB
          have hw : RW = w.drew := SA.out.early (by kernel_rfl)
          subst hw
          obtain ⟨v20, e20, g20, f20⟩ := hd 8 20 (by kernel_rfl) rfl
          have f20 : v20 = .slice (some ⟨gh, oh, none⟩) n caph := f20
          subst f20
          obtain ⟨v21, e21, g21, f21⟩ := hd 9 21 (by kernel_rfl) rfl
          have f21 : v21 = .int .i64 (k : Int) := f21
          subst f21
          clear hk hd
          have HR := Lib.hid hR
          clear hR
          go_simp
          exact hK _ _ (trivial) rfl (SA.out.same (Nat.ne_of_beq_eq_false rfl)) (SB.out.same (Nat.ne_of_beq_eq_false rfl))
        · intro ra RW hR hsA hsB hk hd K hK
          have SA := Lib.hid hsA
          have SB := Lib.hid hsB
          clear hsA hsB
          have hw : RW = w.drew := SA.out.early (by kernel_rfl)
          subst hw
          obtain ⟨v22, e22, g22, f22⟩ := hd 10 22 (by kernel_rfl) rfl
          have f22 : v22 = .pointer (some ⟨gh, oh + k, none⟩) := f22
          subst f22
          clear hk hd
          have HR := Lib.hid hR
          clear hR
          go_simp
          exact hK _ _ (trivial) rfl (SA.out.same (Nat.ne_of_beq_eq_false rfl)) (SB.out.same (Nat.ne_of_beq_eq_false rfl))
        · intro ra RW hR hsA hsB hk hd K hK
          have SA := Lib.hid hsA
          have SB := Lib.hid hsB
          clear hsA hsB
          have hw : RW = w.drew := SA.out.early (by kernel_rfl)
          subst hw
          obtain ⟨e2, g2⟩ := hk 2 (.int .i64 (-1)) (by kernel_rfl) rfl
          clear hk hd
          have HR := Lib.hid hR
          clear hR
          go_simp
          exact hK _ _ (trivial) rfl (SA.out.same (Nat.ne_of_beq_eq_false rfl)) (SB.out.same (Nat.ne_of_beq_eq_false rfl))
        · intro ra RW hR hsA hsB hk hd K hK
          have SA := Lib.hid hsA
          have SB := Lib.hid hsB
          clear hsA hsB
          have hw : RW = w.drew := SA.out.early (by kernel_rfl)
          subst hw
          obtain ⟨v23, e23, g23, f23⟩ := hd 11 23 (by kernel_rfl) rfl
          have f23 : v23 = .int .i64 (m : Int) := f23
          subst f23
          obtain ⟨v24, e24, g24, f24⟩ := hd 12 24 (by kernel_rfl) rfl
          have f24 : v24 = .int .i64 (-1) := f24
          subst f24
          clear hk hd
          have HR := Lib.hid hR
          clear hR
          go_simp
          exact hK _ _ (trivial) rfl (SA.out.same (Nat.ne_of_beq_eq_false rfl)) (SB.out.same (Nat.ne_of_beq_eq_false rfl))
        · intro ra RW hR hsA hsB hk hd K hK
          have SA := Lib.hid hsA
          have SB := Lib.hid hsB
          clear hsA hsB
          have hw : RW = w.drew := SA.out.early (by kernel_rfl)
          subst hw
          obtain ⟨v15, e15, g15, f15⟩ := hd 3 15 (by kernel_rfl) rfl
          have f15 : v15 = .slice (some ⟨gh, oh, none⟩) n caph := f15
          subst f15
          obtain ⟨v16, e16, g16, f16⟩ := hd 4 16 (by kernel_rfl) rfl
          have f16 : v16 = .int .i64 (k : Int) := f16
          subst f16
          clear hk hd
          have HR := Lib.hid hR
          clear hR
          go_simp
          exact hK _ _ (trivial) rfl (SA.out.same (Nat.ne_of_beq_eq_false rfl)) (SB.out.same (Nat.ne_of_beq_eq_false rfl))
        · intro ra RW hR hsA hsB hk hd K hK
          have SA := Lib.hid hsA
          have SB := Lib.hid hsB
          clear hsA hsB
          have hw : RW = w.drew := SA.out.self rfl
          subst hw
          obtain ⟨v26, e26, g26, f26⟩ := hd 14 26 (by kernel_rfl) rfl
          have f26 : v26 = .pointer (some ⟨gh, oh + k, none⟩) := f26
          subst f26
          obtain ⟨v25, e25, g25, f25⟩ := hd 13 25 (by kernel_rfl) rfl
          have f25 : v25 = .int .i64 ((m : Int) + -1) := f25
          subst f25
          clear hk hd
          have HR := Lib.hid hR
          clear hR
          go_simp
          exact hK undef _ trivial trivial (SideOut.self rfl rfl) (SideOut.self rfl trivial)
      intro vs RW hR hpA hpB hF
      have q0 : vs 0 = .pointer (some ⟨p, 0, none⟩) := hF 0 (by decide)
      have q1 : vs 1 = .pointer (some ⟨p, 0, none⟩) := hF 1 (by decide)
      have q2 : vs 2 = .pointer (some ⟨p, 0, none⟩) := hF 2 (by decide)
      have q3 : vs 3 = .slice (some ⟨gh, oh, none⟩) n caph := hF 3 (by decide)
      have q4 : vs 4 = .int .i64 (k : Int) := hF 4 (by decide)
      have q5 : vs 5 = .pointer (some ⟨p, 0, none⟩) := hF 5 (by decide)
      have q6 : vs 6 = .pointer (some ⟨p, 0, none⟩) := hF 6 (by decide)
      have q7 : vs 7 = .pointer (some ⟨p, 0, none⟩) := hF 7 (by decide)
      have q8 : vs 8 = .slice (some ⟨gh, oh, none⟩) n caph := hF 8 (by decide)
      have q9 : vs 9 = .int .i64 (k : Int) := hF 9 (by decide)
      have q10 : vs 10 = .pointer (some ⟨gh, oh + k, none⟩) := hF 10 (by decide)
      have q11 : vs 11 = .int .i64 (m : Int) := hF 11 (by decide)
      have q12 : vs 12 = .int .i64 (-1) := hF 12 (by decide)
      have q13 : vs 13 = .int .i64 ((m : Int) + -1) := hF 13 (by decide)
      have q14 : vs 14 = .pointer (some ⟨gh, oh + k, none⟩) := hF 14 (by decide)
      simp only [setAll, List.setIfInBounds_toArray, List.set_cons_zero, List.set_cons_succ, q0, q1, q2, q3, q4, q5, q6, q7, q8, q9, q10, q11, q12, q13, q14]
      clear hF q0 q1 q2 q3 q4 q5 q6 q7 q8 q9 q10 q11 q12 q13 q14
      clear vs
      subst hpA
      go_wp2
      go_ret
      exact ⟨rfl, key.out⟩
  · rw [if_neg hh, if_neg hh]
    rw [decide_eq_false hh] at hIs
    have HC := Lib.hid hIs
    have H := Lib.hid h
    clear h hh hIs
    unfold pp at HC ⊢
    go_enter Try.func23, Try.ntmps23
    go_wp2_with (go_at_call 29; refine HC.out.mono ?_; rintro e1 w1 ⟨rfl, rfl⟩)
    go_ret
    exact ⟨rfl, RWent.of (Only.refl _ _) H.out⟩
end Go.Proofs.Ytmebpalfjcejoaa
