/-
  The contracts of the functions Fill and View of the document's pool; no condition beyond those that each theorem states.
-/
import Derived.Test.YtmebpalfjcejoaaRef1
namespace Go.Proofs.Ytmebpalfjcejoaa
open Go.RowKit Go.Rb

set_option maxRecDepth 20000 in
set_option maxHeartbeats 2000000 in
theorem rfill_any {S : Nat → Prop} {p : Nat} {s : PS} (i : Int) (A : Option Addr) (n c B : Nat) (b : List UInt8) (w : World) (hR : RefR w S p s) (hr : Rd w B 1 A n (b.map bV)) (hB : B ≤ w.heap.size) :
    Calls Try.prog 21 #[pp p, .int .i64 i, .slice A n c] w fun e w' => e = .returned (.int .i64 (fillE s i b)) ∧ RWent w S p (fillS s i b) w' := by
  obtain ⟨hv, bv, lv, h⟩ := hR
  have hl : b.length = n := by simpa using hr.1
  have hIs := is_any i w h
  unfold fillS
  unfold fillE
  by_cases hh : heldB s i
  · simp only [if_pos hh]
    rw [decide_eq_true hh] at hIs
    obtain ⟨k, rfl, hk, h0, hb, -, ht⟩ := held_cases hh
    rw [hb]
    have c0 := h.c0
    have c1 := h.c1
    have c3 := h.c3
    obtain ⟨gh, oh, caph, hvf, ch, fh, sgh, hgp⟩ := h.hform hk
    obtain ⟨gb, ob, capb, bvf, cb, fb, sgb, bgp⟩ := h.bform hk
    have HC := Lib.hid hIs
    have i3 : (k : Int) < (s.hs.length : Int) := by omega
    have i4 : (k : Int) < (s.bs.length : Int) := by rw [h.bl]; omega
    have H := Lib.hid h
    by_cases h1 : 1 < s.hs.getD k 0
    · simp only [if_pos h1]
      subst hvf
      clear h hIs hh hb h0 ht hr bvf
      generalize s.hs.getD k 0 = m at *
      generalize s.hs.length = nh at *
      have i1 : (1 : Int) < (m : Int) := by omega
      unfold pp at HC ⊢
      go_enter Try.func21, Try.ntmps21
      go_wp2_with (go_at_call 29; refine HC.out.mono ?_; rintro e1 w1 ⟨rfl, rfl⟩)
      go_ret
      exact ⟨rfl, RWent.of (Only.refl _ _) H.out⟩
    · simp only [if_neg h1, hl]
      by_cases h2 : s.size < n
      · simp only [if_pos h2]
        subst hvf
        clear h hIs hh hb h0 ht hr bvf
        generalize s.hs.getD k 0 = m at *
        generalize s.hs.length = nh at *
        generalize s.size = z at *
        have i1 : ¬ (1 : Int) < (m : Int) := by omega
        have i2 : (z : Int) < (n : Int) := by omega
        unfold pp at HC ⊢
        go_enter Try.func21, Try.ntmps21
        go_wp2_with (go_at_call 29; refine HC.out.mono ?_; rintro e1 w1 ⟨rfl, rfl⟩)
        go_ret
        exact ⟨rfl, RWent.of (Only.refl _ _) H.out⟩
      · simp only [if_neg h2, if_pos]
        rw [ht]
        have h' := h.frame (T := fun _ => False) ((Only.refl _ w).drew) (fun _ _ h => h)
        have key : Hid (RWent w S p { s with bs := s.bs.set k b } (w.drew.setCell ⟨gb, ob + k, none⟩ (.string ⟨b.toArray⟩))) :=
          RWent.of (((Only.refl S w).drew).setCell (p := ⟨gb, ob + k, none⟩) (fun _ => sgb) _) (h'.setBuf bvf k (by rw [h.bl]; exact hk) b)
        have kb : (convert 22 9 (.slice A n c)).run Try.prog w.drew = .ok (.string ⟨b.toArray⟩) w.drew := conv_rd (W := w.drew) (B := B) (show Rd w.drew B 1 A n (b.map bV) from hr)
        have d1 : w.drew.cell? ⟨p, 1, none⟩ = some bv := c1
        have db : w.drew.cell? ⟨gb, ob + k, none⟩ = some (.string ⟨(s.bs.getD k []).toArray⟩) := cb
        have dfb : w.drew.frozen? ⟨gb, ob + k, none⟩ = false := fb
        subst hvf bvf
        clear h hIs hh hb h0 ht hr h'
        generalize s.hs.getD k 0 = m at *
        generalize s.bs.getD k [] = ob0 at *
        generalize s.hs.length = nh at *
        generalize s.bs.length = nb at *
        generalize s.size = z at *
        have i1 : ¬ (1 : Int) < (m : Int) := by omega
        have i2 : ¬ (z : Int) < (n : Int) := by omega
        unfold pp at HC ⊢
        go_enter Try.func21, Try.ntmps21
        go_wp2_with (go_at_call 29; refine HC.out.mono ?_; rintro e1 w1 ⟨rfl, rfl⟩)
        refine region_objs (by kernel_rfl) (fun _ _ => True)
          [.val (.pointer (some ⟨p, 0, none⟩)),
           .val (.pointer (some ⟨p, 0, none⟩)),
           .val (.pointer (some ⟨p, 1, none⟩)),
           .val (.slice (some ⟨gb, ob, none⟩) nb capb),
           .val (.int .i64 (k : Int)),
           .val (.slice A n c),
           .val (.string ⟨b.toArray⟩),
           .val (.pointer (some ⟨gb, ob + k, none⟩)),
           .any]
          (⟨8, fun W => W = w.drew, fun W => W = w.drew.setCell ⟨gb, ob + k, none⟩ (.string ⟨b.toArray⟩)⟩) (⟨8, fun _ => True, fun _ => True⟩) (fun _ => trivial) (fun _ _ _ _ _ => trivial) (by kernel_rfl) (rfl) (trivial) ⟨Nat.le_of_ble_eq_true rfl, Nat.le_of_ble_eq_true rfl⟩ ?_ ?_
        · refine ⟨?_, ?_, ?_, ?_, ?_, ?_, ?_, ?_, ?_, trivial⟩
          · intro ra RW hR hsA hsB hk hd K hK
            have SA := Lib.hid hsA
            have SB := Lib.hid hsB
            clear hsA hsB
            have hw : RW = w.drew := SA.out.early (by kernel_rfl)
            subst hw
            obtain ⟨e0, g0⟩ := hk 0 (.pointer (some ⟨p, 0, none⟩)) (by kernel_rfl) rfl
            clear hk hd
            have HR := Lib.hid hR
            clear hR
            go_simp
            exact hK _ _ (trivial) rfl (SA.out.same (Nat.ne_of_beq_eq_false rfl)) (SB.out.same (Nat.ne_of_beq_eq_false rfl))
          · intro ra RW hR hsA hsB hk hd K hK
            have SA := Lib.hid hsA
            have SB := Lib.hid hsB
            clear hsA hsB
            have hw : RW = w.drew := SA.out.early (by kernel_rfl)
            subst hw
            obtain ⟨v26, e26, g26, f26⟩ := hd 0 26 (by kernel_rfl) rfl
            have f26 : v26 = .pointer (some ⟨p, 0, none⟩) := f26
            subst f26
            clear hk hd
            have HR := Lib.hid hR
            clear hR
            go_simp
            exact hK _ _ (trivial) rfl (SA.out.same (Nat.ne_of_beq_eq_false rfl)) (SB.out.same (Nat.ne_of_beq_eq_false rfl))
          · intro ra RW hR hsA hsB hk hd K hK
            have SA := Lib.hid hsA
            have SB := Lib.hid hsB
            clear hsA hsB
            have hw : RW = w.drew := SA.out.early (by kernel_rfl)
            subst hw
            obtain ⟨v27, e27, g27, f27⟩ := hd 1 27 (by kernel_rfl) rfl
            have f27 : v27 = .pointer (some ⟨p, 0, none⟩) := f27
            subst f27
            clear hk hd
            have HR := Lib.hid hR
            clear hR
            go_simp
            exact hK _ _ (trivial) rfl (SA.out.same (Nat.ne_of_beq_eq_false rfl)) (SB.out.same (Nat.ne_of_beq_eq_false rfl))
          · intro ra RW hR hsA hsB hk hd K hK
            have SA := Lib.hid hsA
            have SB := Lib.hid hsB
            clear hsA hsB
            have hw : RW = w.drew := SA.out.early (by kernel_rfl)
            subst hw
            obtain ⟨v28, e28, g28, f28⟩ := hd 2 28 (by kernel_rfl) rfl
            have f28 : v28 = .pointer (some ⟨p, 1, none⟩) := f28
            subst f28
            clear hk hd
            have HR := Lib.hid hR
            clear hR
            go_simp
            exact hK _ _ (trivial) rfl (SA.out.same (Nat.ne_of_beq_eq_false rfl)) (SB.out.same (Nat.ne_of_beq_eq_false rfl))
          · intro ra RW hR hsA hsB hk hd K hK
            have SA := Lib.hid hsA
            have SB := Lib.hid hsB
            clear hsA hsB
            have hw : RW = w.drew := SA.out.early (by kernel_rfl)
            subst hw
            obtain ⟨e1, g1⟩ := hk 1 (.int .i64 (k : Int)) (by kernel_rfl) rfl
            clear hk hd
            have HR := Lib.hid hR
            clear hR
            go_simp
            exact hK _ _ (trivial) rfl (SA.out.same (Nat.ne_of_beq_eq_false rfl)) (SB.out.same (Nat.ne_of_beq_eq_false rfl))
          · intro ra RW hR hsA hsB hk hd K hK
            have SA := Lib.hid hsA
            have SB := Lib.hid hsB
            clear hsA hsB
            have hw : RW = w.drew := SA.out.early (by kernel_rfl)
            subst hw
            obtain ⟨e2, g2⟩ := hk 2 (.slice A n c) (by kernel_rfl) rfl
            clear hk hd
            have HR := Lib.hid hR
            clear hR
            go_simp
            exact hK _ _ (trivial) rfl (SA.out.same (Nat.ne_of_beq_eq_false rfl)) (SB.out.same (Nat.ne_of_beq_eq_false rfl))
          · intro ra RW hR hsA hsB hk hd K hK
            have SA := Lib.hid hsA
            have SB := Lib.hid hsB
            clear hsA hsB
            have hw : RW = w.drew := SA.out.early (by kernel_rfl)
            subst hw
            obtain ⟨v31, e31, g31, f31⟩ := hd 5 31 (by kernel_rfl) rfl
            have f31 : v31 = .slice A n c := f31
            subst f31
            clear hk hd
            have HR := Lib.hid hR
            clear hR
            go_simp
            exact hK _ _ (trivial) rfl (SA.out.same (Nat.ne_of_beq_eq_false rfl)) (SB.out.same (Nat.ne_of_beq_eq_false rfl))
          · intro ra RW hR hsA hsB hk hd K hK
            have SA := Lib.hid hsA
            have SB := Lib.hid hsB
            clear hsA hsB
            have hw : RW = w.drew := SA.out.early (by kernel_rfl)
            subst hw
            obtain ⟨v29, e29, g29, f29⟩ := hd 3 29 (by kernel_rfl) rfl
            have f29 : v29 = .slice (some ⟨gb, ob, none⟩) nb capb := f29
            subst f29
            obtain ⟨v30, e30, g30, f30⟩ := hd 4 30 (by kernel_rfl) rfl
            have f30 : v30 = .int .i64 (k : Int) := f30
            subst f30
            clear hk hd
            have HR := Lib.hid hR
            clear hR
            go_simp
            exact hK _ _ (trivial) rfl (SA.out.same (Nat.ne_of_beq_eq_false rfl)) (SB.out.same (Nat.ne_of_beq_eq_false rfl))
          · intro ra RW hR hsA hsB hk hd K hK
            have SA := Lib.hid hsA
            have SB := Lib.hid hsB
            clear hsA hsB
            have hw : RW = w.drew := SA.out.self rfl
            subst hw
            obtain ⟨v33, e33, g33, f33⟩ := hd 7 33 (by kernel_rfl) rfl
            have f33 : v33 = .pointer (some ⟨gb, ob + k, none⟩) := f33
            subst f33
            obtain ⟨v32, e32, g32, f32⟩ := hd 6 32 (by kernel_rfl) rfl
            have f32 : v32 = .string ⟨b.toArray⟩ := f32
            subst f32
            clear hk hd
            have HR := Lib.hid hR
            clear hR
            go_simp
            exact hK undef _ trivial trivial (SideOut.self rfl rfl) (SideOut.self rfl trivial)
        intro vs RW hR hpA hpB hF
        have q0 : vs 0 = .pointer (some ⟨p, 0, none⟩) := hF 0 (by decide)
        have q1 : vs 1 = .pointer (some ⟨p, 0, none⟩) := hF 1 (by decide)
        have q2 : vs 2 = .pointer (some ⟨p, 1, none⟩) := hF 2 (by decide)
        have q3 : vs 3 = .slice (some ⟨gb, ob, none⟩) nb capb := hF 3 (by decide)
        have q4 : vs 4 = .int .i64 (k : Int) := hF 4 (by decide)
        have q5 : vs 5 = .slice A n c := hF 5 (by decide)
        have q6 : vs 6 = .string ⟨b.toArray⟩ := hF 6 (by decide)
        have q7 : vs 7 = .pointer (some ⟨gb, ob + k, none⟩) := hF 7 (by decide)
        simp only [setAll, List.setIfInBounds_toArray, List.set_cons_zero, List.set_cons_succ, q0, q1, q2, q3, q4, q5, q6, q7]
        clear hF q0 q1 q2 q3 q4 q5 q6 q7
        clear vs
        subst hpA
        go_wp2
        go_ret
        exact ⟨rfl, key.out⟩
  · simp only [if_neg hh]
    rw [decide_eq_false hh] at hIs
    have HC := Lib.hid hIs
    have H := Lib.hid h
    clear h hh hr hIs
    unfold pp at HC ⊢
    go_enter Try.func21, Try.ntmps21
    go_wp2_with (go_at_call 29; refine HC.out.mono ?_; rintro e1 w1 ⟨rfl, rfl⟩)
    go_ret
    exact ⟨rfl, RWent.of (Only.refl _ _) H.out⟩

theorem ext_mid (b : List UInt8) (f t : Nat) : (⟨b.toArray⟩ : ByteArray).extract f t = ⟨((b.drop f).take (t - f)).toArray⟩ := by
  apply ByteArray.ext
  rw [ByteArray.data_extract]
  apply Array.toList_inj.1
  rw [Array.toList_extract]
  try rfl

set_option maxHeartbeats 2000000 in
theorem rview_any {S : Nat → Prop} {p : Nat} {s : PS} (i f t : Int) (w : World) (hR : RefR w S p s) (hz : (bOf s i).length ≤ 1000000) :
    Calls Try.prog 22 #[pp p, .int .i64 i, .int .i64 f, .int .i64 t] w fun e w' => e = .returned (.tuple #[.string ⟨(viewO s i f t).toArray⟩, .int .i64 (viewE s i f t)]) ∧ w = w' := by
  obtain ⟨hv, bv, lv, h⟩ := hR
  have hIs := is_any i w h
  unfold viewO viewE
  by_cases hh : heldB s i
  · rw [decide_eq_true hh] at hIs
    obtain ⟨k, rfl, hk, h0, -, hb, -⟩ := held_cases hh
    have c1 := h.c1
    obtain ⟨gb, ob, capb, bvf, cb, -, -, -⟩ := h.bform hk
    have e : viewOk s (k : Int) f t ↔ 0 ≤ f ∧ f ≤ t ∧ t ≤ ((s.bs.getD k []).length : Int) := by
      unfold viewOk; rw [hb]; exact ⟨fun x => x.2, fun x => ⟨hh, x⟩⟩
    rw [hb] at hz ⊢
    have HC := Lib.hid hIs
    have i4 : (k : Int) < (s.bs.length : Int) := by rw [h.bl]; omega
    have i5 : k < s.bs.length := by omega
    subst bvf
    clear h hh h0 hIs
    generalize s.bs.getD k [] = bs at *
    generalize s.bs.length = nb at *
    have hsz : (⟨bs.toArray⟩ : ByteArray).size = bs.length := by simp [ByteArray.size]
    by_cases hok : viewOk s (k : Int) f t
    · simp only [if_pos hok]
      obtain ⟨h1, h2, h3⟩ := e.1 hok
      clear e hok
      obtain ⟨a, rfl⟩ := Int.eq_ofNat_of_zero_le h1
      obtain ⟨b, rfl⟩ := Int.eq_ofNat_of_zero_le (show 0 ≤ t by omega)
      simp only [Int.toNat_natCast]
      have hx := ext_mid bs a b
      rw [← hx]
      have j1 : a ≤ b := by omega
      have j2 : b ≤ bs.length := by omega
      generalize bs.length = n at *
      have i1 : ¬ (a : Int) < 0 := by omega
      have i2 : ¬ (b : Int) < (a : Int) := by omega
      have i3 : ¬ (n : Int) < (b : Int) := by omega
      clear hx
      generalize (⟨bs.toArray⟩ : ByteArray) = X at *
      unfold pp at HC ⊢
      go_enter Try.func22, Try.ntmps22
      go_wp2_with (go_at_call 29; refine HC.out.mono ?_; rintro e1 w1 ⟨rfl, rfl⟩)
      go_ret2
      exact ⟨rfl, rfl⟩
    · simp only [if_neg hok]
      rw [e] at hok
      clear e
      generalize bs.length = n at *
      generalize (⟨bs.toArray⟩ : ByteArray) = X at *
      unfold pp at HC ⊢
      by_cases h1 : f < 0
      · go_enter Try.func22, Try.ntmps22
        go_wp2_with (go_at_call 29; refine HC.out.mono ?_; rintro e1 w1 ⟨rfl, rfl⟩)
        go_ret2
        exact ⟨rfl, rfl⟩
      · by_cases h2 : t < f
        · go_enter Try.func22, Try.ntmps22
          go_wp2_with (go_at_call 29; refine HC.out.mono ?_; rintro e1 w1 ⟨rfl, rfl⟩)
          go_ret2
          exact ⟨rfl, rfl⟩
        · have h3 : (n : Int) < t := by omega
          clear hok
          go_enter Try.func22, Try.ntmps22
          go_wp2_with (go_at_call 29; refine HC.out.mono ?_; rintro e1 w1 ⟨rfl, rfl⟩)
          go_ret2
          exact ⟨rfl, rfl⟩
  · have hvk : ¬ viewOk s i f t := fun x => hh x.1
    simp only [if_neg hvk]
    rw [decide_eq_false hh] at hIs
    have HC := Lib.hid hIs
    clear h hh hvk hz hIs
    unfold pp at HC ⊢
    go_enter Try.func22, Try.ntmps22
    go_wp2_with (go_at_call 29; refine HC.out.mono ?_; rintro e1 w1 ⟨rfl, rfl⟩)
    go_ret2
    exact ⟨rfl, rfl⟩
end Go.Proofs.Ytmebpalfjcejoaa
