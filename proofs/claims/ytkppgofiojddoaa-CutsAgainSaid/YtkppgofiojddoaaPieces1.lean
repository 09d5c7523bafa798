/-
  The walk of reedbedlaw04.CutsPieces: it returns true; no condition beyond those that each theorem states.
-/
import Derived.Test.YtkppgofiojddoaaAwake
namespace Go.Proofs.Ytkppgofiojddoaa
open Go.RowKit Go.Rb

theorem cutF_flat (zs : List Int) : ∀ (f i : Nat) (bs : List UInt8), bs.length ≤ f → (cutF zs f i bs).flatten = bs
  | 0, i, bs, h => by
    have : bs = [] := List.eq_nil_of_length_eq_zero (by omega)
    subst this; rfl
  | f + 1, i, bs, h => by
    rw [cutF]
    split
    · rename_i h0; subst h0; rfl
    · rename_i h0
      have hl : 0 < bs.length := by cases bs <;> simp_all
      have hm := mOf_bd zs i bs.length hl
      rw [List.flatten_cons, cutF_flat zs f (i + 1) _ (by rw [List.length_drop]; omega), List.take_append_drop]
theorem cutP_flat (bs : List UInt8) (zs : List Int) : (cutP bs zs).flatten = bs := by
  unfold cutP
  split
  · rename_i h; subst h; rfl
  · split
    · simp
    · exact cutF_flat zs _ _ _ (Nat.le_refl _)
theorem cutF_ne (zs : List Int) : ∀ (f i : Nat) (bs : List UInt8), ∀ p ∈ cutF zs f i bs, p ≠ []
  | 0, i, bs, p, hp => by simp [cutF] at hp
  | f + 1, i, bs, p, hp => by
    rw [cutF] at hp
    split at hp
    · simp at hp
    · rename_i h0
      have hl : 0 < bs.length := by cases bs <;> simp_all
      have hm := mOf_bd zs i bs.length hl
      rcases List.mem_cons.1 hp with rfl | hp
      · intro e
        have h5 := congrArg List.length e
        rw [List.length_take, List.length_nil] at h5
        omega
      · exact cutF_ne zs f _ _ p hp
theorem cutP_ne (bs : List UInt8) (zs : List Int) : ∀ p ∈ cutP bs zs, p ≠ [] := by
  unfold cutP
  intro p hp
  split at hp
  · simp at hp
  · rename_i h
    split at hp
    · rcases List.mem_singleton.1 hp with rfl; exact h
    · exact cutF_ne zs _ _ _ p hp
theorem flat_len (ps : List (List UInt8)) (h : ∀ p ∈ ps, p ≠ []) : ps.length ≤ ps.flatten.length := by
  induction ps with
  | nil => simp
  | cons p ps ih =>
    have h1 := ih (fun q hq => h q (List.mem_cons_of_mem _ hq))
    have h2 : 0 < p.length := by cases p with
      | nil => exact absurd rfl (h [] (by simp))
      | cons => simp
    simp only [List.length_cons, List.flatten_cons, List.length_append]
    omega
theorem cutP_len (bs : List UInt8) (zs : List Int) : (cutP bs zs).length ≤ bs.length := by
  have := flat_len (cutP bs zs) (cutP_ne bs zs)
  rwa [cutP_flat] at this

set_option maxHeartbeats 2000000 in
theorem pieces_small (bs : List UInt8) (zs : List Int) (A Z : Option Addr) (n c m d : Nat) (w : World) (hr : Rd w w.heap.size 1 A n (bs.map bV)) (hz : Rd w w.heap.size 1 Z m (zs.map iV)) (hn : n ≤ 500) (hc : n ≤ c) (hm : m ≤ 20) (hd : m ≤ d) :
    Calls Try.prog 4 #[.slice A n c, .slice Z m d] w fun e w' => e = .returned (.bool true) ∧ Below w.heap.size w w' := by
  obtain ⟨i0, hi0, hz0, hz1, hz2⟩ := info_parts info5
  have hl : bs.length = n := by simpa using hr.1
  have hA : Hid (∀ w, Calls Try.prog 7 #[] w fun e w' => e = .returned (.bool true) ∧ Below w.heap.size w w') := awake_any
  have hfl := Lib.hid (cutP_flat bs zs)
  have hpl := cutP_len bs zs
  have hpn := Lib.hid (cutP_ne bs zs)
  have HR0' := Lib.hid hr
  have HZ0 := Lib.hid hz
  have HL := Lib.hid hl
  have hC : Hid (∀ X, Below w.heap.size w X → Calls Try.prog 13 #[.string ⟨bs.toArray⟩, .slice Z m d] X (RetNewS X (cutP bs zs))) := fun X hX => refCut_any bs zs Z n m d w.heap.size X (HZ0.out.below hX) HL.out (by omega) (by omega) hX.size
  have hCut : Hid (∀ X v, Below w.heap.size w X → Own X 5 1 v n (bs.map bV) → Calls Try.prog 11 #[v, .slice Z m d] X (RetNewP X (cutP bs zs))) := by
    intro X v hX ho
    obtain ⟨A1, c1, rfl, hr1, hc1⟩ := Own.rd' ho
    exact cut_any bs zs A1 Z n c1 m d X.heap.size X hr1 ((HZ0.out.below hX).more hX.size) (by omega) hc1 (by omega) (Nat.le_refl _)
  generalize cutP bs zs = P at *
  have hpl' : P.length ≤ 500 := by omega
  have h63 : 0 + n ≤ maxLen := by simp only [maxLen]; omega
  have H63 := Lib.hid h63
  clear h63 hr hz hl
  have hn' : (n : Int) ≤ 500 := by omega
  have hm' : (m : Int) ≤ 20 := by omega
  go_enter Try.func4, Try.ntmps4
  go_wp2_with (first
    | (go_at_call 7; refine (hA.out _).mono ?_; rintro e1 w1 ⟨rfl, hb1⟩; have HB1 := Lib.hid hb1; clear hb1)
    | (at_builtin; refine wpList_append_rd _ rfl (.tmp 20) (.tmp 21) _ rfl 5 i0 _ 1 1 Try.underlying27 hi0 hz0 hz1 hz2 rfl (by omega) (.slice (some ⟨w1.heap.size, 0, none⟩) 0 0) 0 [] rfl (by exact Own.lit w1 5 1 0 #[] rfl (by decide)) w.heap.size A n c (bs.map bV) rfl (by exact HR0'.out.below (HB1.out.trans ((below_al (Below.refl _ _) _).mono HB1.out.size))) (by simp [bV, Value.oneCell']) H63.out (by omega) _ rfl ?_; intro v2 w2 hown2 hgrow2 hat2; have hb2 : Below w1.heap.size w1 w2 := Below.grown (below_al (Below.refl _ _) _) hgrow2 (by simp) (by simp [Value.ownBlock]); have hown2' : Own w2 5 1 v2 n (bs.map bV) := (by simpa using hown2); have HB2 := Lib.hid (below_trans HB1.out hb2); have HO2 := Lib.hid hown2'; clear hown2 hgrow2 hb2 hown2')
    | (go_at_call 11; refine (hCut.out _ _ HB2.out HO2.out).mono ?_; rintro e3 w3 ⟨v3, rfl, vs, ho3, hp3, hb3, hk3⟩; obtain ⟨Ap, cp, rfl, hr3, -⟩ := Own.rd' ho3))
  have HB3 := Lib.hid (below_trans HB2.out hb3).drew
  have hM : Hid (∀ X v, Below w3.drew.heap.size w3.drew X → Own X 9 1 v P.length (P.map sV) → Calls Try.prog 12 #[.slice Ap P.length cp, v] X fun e w' => e = .returned (.bool true) ∧ ∃ q, w' = X.drewN q) := by
    intro X v hX0 ho
    have hX := below_trans (Below.refl _ w3).drew hX0
    obtain ⟨As, cs, rfl, hs, -⟩ := Own.rd' ho
    refine (same_any Ap As _ _ cp cs vs P P X _ _ _ (hr3.below hX) (hp3.pr.below hX) hs (by omega) (by omega)).mono ?_
    rintro e w' ⟨rfl, hq⟩
    exact ⟨by simp, hq⟩
  have HM := hM
  have HJ : Hid (∀ X, Below w3.drew.heap.size w3.drew X → Calls Try.prog 14 #[.slice Ap P.length cp] X (RetNewB X bs)) := by
    intro X hX0
    have hX := below_trans (Below.refl _ w3).drew hX0
    have := join_any Ap P.length cp vs P X _ _ (hr3.below hX) (hp3.pr.below hX) hX.size hX.size (by omega) (by rw [hfl.out, HL.out]; omega)
    rwa [hfl.out] at this
  have HR3 := Lib.hid hr3; have HP3 := Lib.hid hp3
  clear hM hr3 hp3 ho3 hCut
  refine region_rows (by kernel_rfl) (fun W W' => Below W.heap.size W W')
    [.val (.slice Ap P.length cp),
     .val (.slice A n c),
     .val (.string ⟨bs.toArray⟩),
     .val (.slice Z m d),
     ⟨fun v W => Own W 9 1 v P.length (P.map sV), fun _ _ _ h hR => h.below hR fun _ hk => h.lt hk⟩,
     .val (.bool true),
     .val (.bool false),
     .val (.bool false),
     .val (.slice Ap P.length cp),
     ⟨fun v W => Own W 5 1 v bs.length (bs.map bV), fun _ _ _ h hR => h.below hR fun _ hk => h.lt hk⟩,
     .val (.string ⟨bs.toArray⟩),
     .val (.slice A n c),
     .val (.string ⟨bs.toArray⟩),
     .val (.bool false),
     .val (.bool false)]
    (fun W => Below.refl _ W) (fun _ _ _ h k => below_trans h k) (by kernel_rfl) ?_ ?_
  · refine ⟨?_, ?_, ?_, ?_, ?_, ?_, ?_, ?_, ?_, ?_, ?_, ?_, ?_, ?_, ?_, trivial⟩
    · intro ra RW hR hk hd K hK
      obtain ⟨e6, g6⟩ := hk 6 (.slice Ap P.length cp) (by kernel_rfl) rfl
      clear hk hd
      have HR := Lib.hid hR
      clear hR
      go_simp
      exact hK _ _ (Below.refl _ _) rfl
    · intro ra RW hR hk hd K hK
      obtain ⟨e0, g0⟩ := hk 0 (.slice A n c) (by kernel_rfl) rfl
      clear hk hd
      have HR := Lib.hid hR
      clear hR
      go_simp
      exact hK _ _ (Below.refl _ _) rfl
    · intro ra RW hR hk hd K hK
      obtain ⟨v27, e27, g27, f27⟩ := hd 1 27 (by kernel_rfl) rfl
      have f27 : v27 = .slice A n c := f27
      subst f27
      clear hk hd
      have HR := Lib.hid hR
      clear hR
      go_simp
      rw [conv_rd (HR0'.out.below (HB3.out.trans (HR.out.mono HB3.out.size)))]
      go_simp
      exact hK _ _ (Below.refl _ _) rfl
    · intro ra RW hR hk hd K hK
      obtain ⟨e1, g1⟩ := hk 1 (.slice Z m d) (by kernel_rfl) rfl
      clear hk hd
      have HR := Lib.hid hR
      clear hR
      go_simp
      exact hK _ _ (Below.refl _ _) rfl
    · intro ra RW hR hk hd K hK
      obtain ⟨v28, e28, g28, f28⟩ := hd 2 28 (by kernel_rfl) rfl
      have f28 : v28 = .string ⟨bs.toArray⟩ := f28
      subst f28
      obtain ⟨v29, e29, g29, f29⟩ := hd 3 29 (by kernel_rfl) rfl
      have f29 : v29 = .slice Z m d := f29
      subst f29
      clear hk hd
      have HR := Lib.hid hR
      clear hR
      go_simp
      refine (hC.out _ (HB3.out.trans (HR.out.mono HB3.out.size))).mono ?_
      rintro e w2 ⟨v, rfl, ho, hb, hn⟩
      exact hK _ _ hb ho
    · intro ra RW hR hk hd K hK
      obtain ⟨v26, e26, g26, f26⟩ := hd 0 26 (by kernel_rfl) rfl
      have f26 : v26 = .slice Ap P.length cp := f26
      subst f26
      obtain ⟨v30, e30, g30, f30⟩ := hd 4 30 (by kernel_rfl) rfl
      have F30 := Lib.hid f30
      clear f30
      clear hk hd
      have HR := Lib.hid hR
      clear hR
      go_simp
      refine (HM.out _ _ HR.out F30.out).mono ?_
      rintro e w2 ⟨rfl, q, rfl⟩
      exact hK _ _ (below_drewN (Below.refl _ _) q) rfl
    · intro ra RW hR hk hd K hK
      obtain ⟨v31, e31, g31, f31⟩ := hd 5 31 (by kernel_rfl) rfl
      have f31 : v31 = .bool true := f31
      subst f31
      clear hk hd
      have HR := Lib.hid hR
      clear hR
      go_simp
      exact hK _ _ (Below.refl _ _) rfl
    · intro ra RW hR hk hd K hK
      obtain ⟨v32, e32, g32, f32⟩ := hd 6 32 (by kernel_rfl) rfl
      have f32 : v32 = .bool false := f32
      subst f32
      clear hk hd
      have HR := Lib.hid hR
      clear hR
      go_simp
      exact hK _ _ (Below.refl _ _) rfl
    · intro ra RW hR hk hd K hK
      obtain ⟨e6, g6⟩ := hk 6 (.slice Ap P.length cp) (by kernel_rfl) rfl
      obtain ⟨v33, e33, g33, f33⟩ := hd 7 33 (by kernel_rfl) rfl
      have f33 : v33 = .bool false := f33
      subst f33
      clear hk hd
      have HR := Lib.hid hR
      clear hR
      go_simp
      exact hK _ _ (Below.refl _ _) rfl
    · intro ra RW hR hk hd K hK
      obtain ⟨v34, e34, g34, f34⟩ := hd 8 34 (by kernel_rfl) rfl
      have f34 : v34 = .slice Ap P.length cp := f34
      subst f34
      obtain ⟨v33, e33, g33, f33⟩ := hd 7 33 (by kernel_rfl) rfl
      have f33 : v33 = .bool false := f33
      subst f33
      clear hk hd
      have HR := Lib.hid hR
      clear hR
      go_simp
      refine (HJ.out _ HR.out).mono ?_
      rintro e w2 ⟨v, rfl, ho, hb, hn⟩
      exact hK _ _ hb ho
    · intro ra RW hR hk hd K hK
      obtain ⟨v35, e35, g35, f35⟩ := hd 9 35 (by kernel_rfl) rfl
      have F35 := Lib.hid f35
      clear f35
      obtain ⟨v33, e33, g33, f33⟩ := hd 7 33 (by kernel_rfl) rfl
      have f33 : v33 = .bool false := f33
      subst f33
      clear hk hd
      have HR := Lib.hid hR
      clear hR
      go_simp
      rw [conv_own F35.out]
      go_simp
      exact hK _ _ (Below.refl _ _) rfl
    · intro ra RW hR hk hd K hK
      obtain ⟨e0, g0⟩ := hk 0 (.slice A n c) (by kernel_rfl) rfl
      obtain ⟨v33, e33, g33, f33⟩ := hd 7 33 (by kernel_rfl) rfl
      have f33 : v33 = .bool false := f33
      subst f33
      clear hk hd
      have HR := Lib.hid hR
      clear hR
      go_simp
      exact hK _ _ (Below.refl _ _) rfl
    · intro ra RW hR hk hd K hK
      obtain ⟨v37, e37, g37, f37⟩ := hd 11 37 (by kernel_rfl) rfl
      have f37 : v37 = .slice A n c := f37
      subst f37
      obtain ⟨v33, e33, g33, f33⟩ := hd 7 33 (by kernel_rfl) rfl
      have f33 : v33 = .bool false := f33
      subst f33
      clear hk hd
      have HR := Lib.hid hR
      clear hR
      go_simp
      rw [conv_rd (HR0'.out.below (HB3.out.trans (HR.out.mono HB3.out.size)))]
      go_simp
      exact hK _ _ (Below.refl _ _) rfl
    · intro ra RW hR hk hd K hK
      obtain ⟨v36, e36, g36, f36⟩ := hd 10 36 (by kernel_rfl) rfl
      have f36 : v36 = .string ⟨bs.toArray⟩ := f36
      subst f36
      obtain ⟨v38, e38, g38, f38⟩ := hd 12 38 (by kernel_rfl) rfl
      have f38 : v38 = .string ⟨bs.toArray⟩ := f38
      subst f38
      obtain ⟨v33, e33, g33, f33⟩ := hd 7 33 (by kernel_rfl) rfl
      have f33 : v33 = .bool false := f33
      subst f33
      clear hk hd
      have HR := Lib.hid hR
      clear hR
      go_simp
      exact hK _ _ (Below.refl _ _) rfl
    · intro ra RW hR hk hd K hK
      obtain ⟨v33, e33, g33, f33⟩ := hd 7 33 (by kernel_rfl) rfl
      have f33 : v33 = .bool false := f33
      subst f33
      obtain ⟨v39, e39, g39, f39⟩ := hd 13 39 (by kernel_rfl) rfl
      have f39 : v39 = .bool false := f39
      subst f39
      clear hk hd
      have HR := Lib.hid hR
      clear hR
      go_simp
      exact hK _ _ (Below.refl _ _) rfl
  intro vs RW hR hF
  have q0 : vs 0 = .slice Ap P.length cp := hF 0 (by decide)
  have q1 : vs 1 = .slice A n c := hF 1 (by decide)
  have q2 : vs 2 = .string ⟨bs.toArray⟩ := hF 2 (by decide)
  have q3 : vs 3 = .slice Z m d := hF 3 (by decide)
  have F30 := Lib.hid (hF 4 (by decide))
  have q5 : vs 5 = .bool true := hF 5 (by decide)
  have q6 : vs 6 = .bool false := hF 6 (by decide)
  have q7 : vs 7 = .bool false := hF 7 (by decide)
  have q8 : vs 8 = .slice Ap P.length cp := hF 8 (by decide)
  have F35 := Lib.hid (hF 9 (by decide))
  have q10 : vs 10 = .string ⟨bs.toArray⟩ := hF 10 (by decide)
  have q11 : vs 11 = .slice A n c := hF 11 (by decide)
  have q12 : vs 12 = .string ⟨bs.toArray⟩ := hF 12 (by decide)
  have q13 : vs 13 = .bool false := hF 13 (by decide)
  have q14 : vs 14 = .bool false := hF 14 (by decide)
  simp only [setAll, List.setIfInBounds_toArray, List.set_cons_zero, List.set_cons_succ, q0, q1, q2, q3, q5, q6, q7, q8, q10, q11, q12, q13, q14]
  clear hF q0 q1 q2 q3 q5 q6 q7 q8 q10 q11 q12 q13 q14
  generalize vs 4 = v30 at *
  generalize vs 9 = v35 at *
  clear vs
  have hRW := Lib.hid (below_trans (Below.refl _ w3).drew hR)
  have HW := Lib.hid (HB3.out.trans (hR.mono HB3.out.size))
  have HI := Lib.hid (HO2.out.below (below_trans hb3 hRW.out) fun _ hk => HO2.out.lt hk)
  clear hR
  by_cases hp0 : P.length = 0
  · have hpb : decide ((0 : Int) < (P.length : Int)) = false := decide_eq_false (by omega)
    have k1 := conv_own HI.out
    have k2 := conv_rd (cap := c) (HR0'.out.below HW.out)
    go_wp2
    go_ret
    exact ⟨by simp, HW.out⟩
  · obtain ⟨p0, P', hP⟩ : ∃ p0 P', P = p0 :: P' := by cases P with
      | nil => exact absurd rfl hp0
      | cons a l => exact ⟨a, l, rfl⟩
    have hp0l : 0 < p0.length := by
      have := hpn.out p0 (by rw [hP]; simp)
      cases p0 with
      | nil => exact absurd rfl this
      | cons => simp
    obtain ⟨v0, hv0, ho0, hk0⟩ := HP3.out.at_ 0 p0 (by rw [hP]; rfl)
    have ho0' := ho0.below hRW.out fun _ hk => ho0.lt hk
    obtain ⟨g, off, cp0, rfl, hc0, -, hg0, hcell, hfr⟩ := ho0'.form hp0l
    have hgk := hk0 g rfl
    obtain ⟨ab, ao, rfl, hab, hac⟩ := HR3.out.2 (by omega)
    have ha0 := (hRW.out.cell (p := ⟨ab, ao + 0, none⟩) hab).trans ((hac 0 (by omega)).trans hv0)
    have hx0 : RW.cell? ⟨g, off, none⟩ = some (.int .u8 ((p0.getD 0 0).toNat : Int)) := by
      have := hcell 0 (by omega)
      rw [Nat.add_zero, List.getElem?_map, List.getElem?_eq_getElem hp0l] at this
      rw [this]
      simp [bV, List.getD, List.getElem?_eq_getElem hp0l]
    have hf0 := hfr off
    rw [Nat.add_zero] at ha0
    generalize ((p0.getD 0 0).toNat : Int) = x at *
    have hin : v2.ownBlock ≠ some g := by
      intro h
      have := HO2.out.lt h
      omega
    have HS := Lib.hid (fun u => HW.out.setCell (p := ⟨g, off, none⟩) (by show _ ≤ g; have := HB2.out.size; omega) u)
    have k1 := fun u => conv_own (HI.out.setCell (p := ⟨g, off, none⟩) hin u)
    have k2 := fun u => conv_rd (cap := c) (HR0'.out.below (HS.out u))
    have hl0 : (0 : Int) < (p0.length : Int) := by omega
    have hl1 : (0 : Int) < (P.length : Int) := by omega
    clear hcell hfr ho0 ho0' hk0 hac hv0
    go_wp2
    go_ret
    exact ⟨by simp, HS.out _⟩

set_option maxHeartbeats 1000000 in
theorem pieces_any (bs : List UInt8) (zs : List Int) (A Z : Option Addr) (n c m d : Nat) (w : World) (hr : Rd w w.heap.size 1 A n (bs.map bV)) (hz : Rd w w.heap.size 1 Z m (zs.map iV)) (hc : n ≤ c) (hd : m ≤ d) :
    Calls Try.prog 4 #[.slice A n c, .slice Z m d] w fun e w' => e = .returned (.bool true) ∧ Below w.heap.size w w' := by
  by_cases h : n ≤ 500 ∧ m ≤ 20
  · exact pieces_small bs zs A Z n c m d w hr hz h.1 hc h.2 hd
  · have hA : Hid (∀ w, Calls Try.prog 7 #[] w fun e w' => e = .returned (.bool true) ∧ Below w.heap.size w w') := awake_any
    clear hr hz
    by_cases h1 : n ≤ 500
    · have h2 : (20 : Int) < (m : Int) := by omega
      have h3 : (n : Int) ≤ 500 := by omega
      clear h
      go_enter Try.func4, Try.ntmps4
      go_wp2_with fail
      refine (hA.out _).mono ?_
      rintro e1 w1 ⟨rfl, hb1⟩
      go_wp2_with fail
      refine (hA.out _).mono ?_
      rintro e2 w2 ⟨rfl, hb2⟩
      go_wp2
      go_ret
      exact ⟨rfl, below_trans hb1 hb2⟩
    · have h2 : (500 : Int) < (n : Int) := by omega
      clear h
      go_enter Try.func4, Try.ntmps4
      go_wp2_with fail
      refine (hA.out _).mono ?_
      rintro e1 w1 ⟨rfl, hb1⟩
      go_wp2_with fail
      refine (hA.out _).mono ?_
      rintro e2 w2 ⟨rfl, hb2⟩
      go_wp2
      go_ret
      exact ⟨rfl, below_trans hb1 hb2⟩
end Go.Proofs.Ytkppgofiojddoaa
