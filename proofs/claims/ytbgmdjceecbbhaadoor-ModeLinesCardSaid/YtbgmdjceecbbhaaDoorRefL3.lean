/-
  The contract of context of the document's layer 18; no condition beyond those that each theorem states.
-/
import Derived.Test.YtbgmdjceecbbhaaDoorLinesP
namespace Go.Proofs.YtbgmdjceecbbhaaDoor
open Go.RowKit Go.Rb
attribute [local irreducible] Go.wpQuiet

set_option maxRecDepth 20000 in
set_option maxHeartbeats 1000000 in
theorem context_ref (l : List Rw) (A : Option Addr) (n c B be af : Nat) (w : World) (hr : Rws w B A n l) (hB : B ≤ w.heap.size) (hf : Fit l) (hbe : be ≤ 100) (haf : af ≤ 100) (hn : n ≤ 100) :
    Calls Tryd.prog 24 #[.slice A n c, .int .i64 be, .int .i64 af] w fun e w' => ∃ v, e = .returned v ∧ Own w' 9 1 v (emitI l (toldB l be af) n).1.length (lns (emitI l (toldB l be af) n).1) ∧ (∀ k, v.ownBlock = some k → w.heap.size ≤ k) ∧ Below w.heap.size w w' := by
  obtain ⟨i0, hi0, hz0, hz1, hz2⟩ := info_parts infoS
  have HR := Lib.hid hr
  have HF := Lib.hid hf
  have hl := hr.1
  have HL := Lib.hid hl
  obtain ⟨t, ht⟩ : ∃ t, toldB l be af = t := ⟨_, rfl⟩
  rw [ht]
  have HTI : Hid (∀ j, t j = true ↔ hitAt l j = true ∨ (∃ k, k < j ∧ j ≤ k + af ∧ hitAt l k = true) ∨ (∃ k, j < k ∧ k ≤ j + be ∧ hitAt l k = true)) := fun j => by rw [← ht]; exact toldB_iff l be af j
  clear hr hf hl ht
  go_enter Tryd.func24, Tryd.ntmps24
  go_wp2_with fail
  go_loopw [7, 8, 9, 10, 11] (fun ov lv iv _ _ wr => ∃ i : Nat, iv = .int .i64 i ∧ i ≤ n ∧ lv = .int .i64 (lastV (emitI l t i).2) ∧ Hid (Own wr 9 1 ov (emitI l t i).1.length (lns (emitI l t i).1)) ∧ Hid (∀ k, ov.ownBlock = some k → w.heap.size ≤ k) ∧ Hid (Below w.heap.size w wr)) (fun _ _ iv _ _ _ => n - (intOf iv).toNat)
  case atStart => exact ⟨0, rfl, by omega, rfl, by show Own _ _ _ _ _ _; exact Own.nil_ _ _ _, fun k hk => by simp [Value.ownBlock] at hk, Below.refl _ _⟩
  case round =>
    obtain ⟨i, rfl, hi, rfl, hown, hok, hbw⟩ := hrel
    have hel := emitI_len l t i
    have hela := emitI_last l t i
    obtain ⟨LA, hLA⟩ : ∃ LA, (emitI l t i).2 = LA := ⟨_, rfl⟩
    rw [hLA] at hela ⊢
    have HLA := Lib.hid hLA
    obtain ⟨E0, hE0⟩ : ∃ E0, (emitI l t i).1 = E0 := ⟨_, rfl⟩
    obtain ⟨le, hle⟩ : ∃ le, E0.length = le := ⟨_, rfl⟩
    rw [hE0, hle] at hown hel
    have HE0 := Lib.hid hE0
    have HLE := Lib.hid hle
    clear hLA hE0 hle
    obtain ⟨Ao, co, rfl, -, -⟩ := hown.out.len_
    have HOUT : Hid (∀ W, Below wr.heap.size wr W → Own W 9 1 (.slice Ao le co) le (lns E0)) := fun W hb => hown.out.below hb (fun k hk => hown.out.lt hk)
    by_cases hlt : i < n
    · have hil : i < l.length := by rw [HL.out]; exact hlt
      obtain ⟨pb, po, Ah, ch, rfl, hx⟩ := (HR.out.below hbw.out hB).2 i hil
      have hfx := HF.out i hil
      have hha := hitAt_get l i hil
      have hra := rAt_get l i hil
      obtain ⟨x, hxe⟩ : ∃ x, l[i] = x := ⟨_, rfl⟩
      rw [hxe] at hx hfx hha hra
      have HXE := Lib.hid hxe
      clear hxe
      have HX := Lib.hid hx
      have HRA := Lib.hid hra
      have x0 := hx.c0
      have x1 := hx.c1
      have x2 := hx.c2
      have x3 := hx.c3
      have HBX : Hid (pb < w.heap.size) := by have := hx.lt; show pb < w.heap.size; omega
      have hpl : pb < wr.heap.size := by have := hbw.out.size; have := HBX.out; omega
      have i1 : (i : Int) < (n : Int) := by omega
      have i2 : (0 : Int) ≤ (i : Int) := by omega
      have HXI : Hid (I64 x.r.n) := hx.i64
      have HH := Lib.hid (hits_any x Ah ch B wr hx.rd (Nat.le_trans hB hbw.out.size) hfx.1 hfx.2)
      unfold rwv at HH
      have HX5 : Hid (∀ W, Below w.heap.size w W → W.cell? ⟨pb, po + i * 4, none⟩ = some (.int .i64 x.r.n) ∧ W.cell? ⟨pb, po + i * 4 + 2, none⟩ = some (.string (mk x.r.t))) := fun W hb =>
  by
        obtain ⟨pb2, po2, Ah2, ch2, e, h⟩ := (HR.out.below hb hB).2 i hil
        injection e with e
        injection e with e1 e2
        subst e1; subst e2
        rw [HXE.out] at h
        exact ⟨h.c0, h.c2⟩
      have HNR : Hid (∀ W (a b : Int), Below w.heap.size w W → (-1000 ≤ a ∧ a ≤ 1000) → (-1000 ≤ b ∧ b ≤ 1000) → Calls Tryd.prog 28 #[.slice (some ⟨pb, po, none⟩) n c, .int .i64 a, .int .i64 b] W fun e w' => ∃ r : Bool, e = .returned (.bool r) ∧ (r = true ↔ ∃ j : Nat, a ≤ (j : Int) ∧ (j : Int) ≤ b ∧ hitAt l j = true) ∧ Below W.heap.size W w') := fun W a b hb ha hb2 => near_any l _ n c B a b W (HR.out.below hb hB) (Nat.le_trans hB hb.size) HF.out ha hb2 (by omega)
      have htx60 : (mk x.r.t).size ≤ 60 := hfx.2
      obtain ⟨m, hm⟩ : ∃ m, x.hs.length = m := ⟨_, rfl⟩
      rw [hm] at x3 HH
      obtain ⟨k, hk⟩ : ∃ k, x.g.length = k := ⟨_, rfl⟩
      rw [hk] at HH hha
      have HHA := Lib.hid hha
      clear HXE hx hfx hha hm hk hil hra
      obtain ⟨TX, hTX⟩ : ∃ TX, mk x.r.t = TX := ⟨_, rfl⟩
      rw [hTX] at x2 HH HX5 htx60
      have HTX := Lib.hid hTX
      clear hTX
      cases LA with
      | none =>
        obtain ⟨SP, hSP⟩ : ∃ SP, sepN l none i = SP := ⟨_, rfl⟩
        have HSP := Lib.hid hSP
        have HSPE : Hid (SP = []) := hSP.symm
        clear hSP
        have hlv0 : lastV none = -1 := rfl
        rw [hlv0]
        clear hlv0
        rcases Nat.eq_zero_or_pos k with hk0 | hk0
        · subst hk0
          have HHT : Hid (hitAt l i = false) := by show _ = _; rw [HHA.out]; rfl
          go_wp2_with (go_at_call 23; go_loud (refine HH.out.mono ?_; rintro e3 w3 ⟨v3, rfl, hown3, hk3, hb3⟩; obtain ⟨A3, c3, rfl, -, -⟩ := hown3.len_; have HW3 := Lib.hid hb3; have HB3 := Lib.hid (hbw.out.trans (hb3.mono hbw.out.size)); clear hown3 hk3 hb3))
          refine (HNR.out w3 _ _ HB3.out (by omega) (by omega)).mono ?_
          rintro e4 w4 ⟨r1, rfl, hr1, hb4⟩
          have HR1 := Lib.hid hr1
          have HB4 := Lib.hid (HB3.out.trans (hb4.mono HB3.out.size))
          have HW4 := Lib.hid (below_trans HW3.out hb4)
          clear hr1 hb4
          clear HB3 HW3
          have HB3 := HB4
          have HW3 := HW4
          clear HB4 HW4
          cases r1 with
          | true =>
            have DONE : Hid (t i = true) := (HTI.out i).2 (.inr (.inl (by obtain ⟨j, h1, h2, h3⟩ := HR1.out.1 rfl; exact ⟨j, by omega, by omega, h3⟩)))
            go_wp2_with fail
            have hx3 := HX5.out _ HB3.out
            have x0 := hx3.1
            have hem : emit1 l none i = SP ++ [line x.r 45] := by unfold emit1; rw [HSP.out, HRA.out, HHT.out]; rfl
            have hE5 : emitI l t (i + 1) = (E0 ++ SP ++ [line x.r 45], some i) := by rw [emitI_yes l t i DONE.out, HLA.out, hem, HE0.out, List.append_assoc]
            rw [HSPE.out] at hE5
            have HE5 := Lib.hid hE5
            have hlv : (mk (Lib.itoa x.r.n) ++ ⟨#[45]⟩) ++ mk x.r.t = mk (line x.r 45) := by rw [show (⟨#[45]⟩ : ByteArray) = mk [45] from rfl, mk_append, mk_append]; rfl
            rw [HTX.out] at hlv
            obtain ⟨LV, hLV⟩ : ∃ LV, mk (line x.r 45) = LV := ⟨_, rfl⟩
            rw [hLV] at hlv
            have HLVV := Lib.hid hLV
            have HLV := Lib.hid hlv
            have hns : (mk (Lib.itoa x.r.n)).size ≤ 20 := itoa_len _ HXI.out
            have HD := Lib.hid (fun W => digits_any x.r.n HXI.out W)
            clear hx3 hem hE5 hlv hLV
            generalize mk (Lib.itoa x.r.n) = NS at *
            go_quiet (fail)
            have HB5 := Lib.hid (HB3.out.trans (below_drewN (Below.refl w.heap.size w4) nq))
            have HOWN5 := Lib.hid (HOUT.out _ (HW3.out.trans (below_drewN (Below.refl wr.heap.size w4) nq)))
            have HK5 := hok
            have HLN5 := HLE
            have hl5 : le ≤ 2 * i + 1 := by omega
            rw [List.append_nil] at HE5
            generalize w4.drewN nq = w55 at *
            go_wp2_with fail
            have hpw : pb < w55.drew.heap.size := by have : w55.drew.heap.size = w55.heap.size := rfl; have := HB5.out.size; have := HBX.out; omega
            have hx5 := HX5.out _ HB5.out
            have z0 := hx5.1
            have z2 := hx5.2
            clear hx5 x0
            refine region_tail 18 (by kernel_rfl) (by kernel_rfl) (fun W W' => Below W.heap.size W W')
              [.val (.slice Ao le co),
               .val (.slice (some ⟨pb, po, none⟩) n c),
               .val (.int .i64 (i : Int)),
               .val (.pointer (some ⟨pb, po + i * 4, none⟩)),
               .val (.pointer (some ⟨pb, po + i * 4, none⟩)),
               .val (.pointer (some ⟨pb, po + i * 4, none⟩)),
               .val (.int .i64 x.r.n),
               .val (.string NS),
               .val (.string ⟨#[45]⟩),
               .val (.string (NS ++ ⟨#[45]⟩)),
               .val (.slice (some ⟨pb, po, none⟩) n c),
               .val (.int .i64 (i : Int)),
               .val (.pointer (some ⟨pb, po + i * 4, none⟩)),
               .val (.pointer (some ⟨pb, po + i * 4, none⟩)),
               .val (.pointer (some ⟨pb, po + i * 4 + 2, none⟩)),
               .val (.string TX),
               .val (.string LV),
               newsRow (.string LV)]
              (fun W => Below.refl _ W) (fun _ _ _ h k => below_trans h k) (by kernel_rfl) ?_ ?_
            · refine ⟨?_, ?_, ?_, ?_, ?_, ?_, ?_, ?_, ?_, ?_, ?_, ?_, ?_, ?_, ?_, ?_, ?_, ?_, trivial⟩
              · intro ra RW hR hk hd K hK
                obtain ⟨e7, g7⟩ := hk 7 (.slice Ao le co) (by kernel_rfl) rfl
                clear hk hd
                have HR := Lib.hid hR
                clear hR
                go_simp
                exact hK _ _ (Below.refl _ _) rfl
              · intro ra RW hR hk hd K hK
                obtain ⟨e0, g0⟩ := hk 0 (.slice (some ⟨pb, po, none⟩) n c) (by kernel_rfl) rfl
                clear hk hd
                have HR := Lib.hid hR
                clear hR
                go_simp
                exact hK _ _ (Below.refl _ _) rfl
              · intro ra RW hR hk hd K hK
                obtain ⟨e9, g9⟩ := hk 9 (.int .i64 (i : Int)) (by kernel_rfl) rfl
                clear hk hd
                have HR := Lib.hid hR
                clear hR
                go_simp
                exact hK _ _ (Below.refl _ _) rfl
              · intro ra RW hR hk hd K hK
                obtain ⟨v71, e71, g71, f71⟩ := hd 1 71 (by kernel_rfl) rfl
                have f71 : v71 = .slice (some ⟨pb, po, none⟩) n c := f71
                subst f71
                obtain ⟨v72, e72, g72, f72⟩ := hd 2 72 (by kernel_rfl) rfl
                have f72 : v72 = .int .i64 (i : Int) := f72
                subst f72
                clear hk hd
                have HR := Lib.hid hR
                clear hR
                go_simp
                exact hK _ _ (Below.refl _ _) rfl
              · intro ra RW hR hk hd K hK
                obtain ⟨v73, e73, g73, f73⟩ := hd 3 73 (by kernel_rfl) rfl
                have f73 : v73 = .pointer (some ⟨pb, po + i * 4, none⟩) := f73
                subst f73
                clear hk hd
                have HR := Lib.hid hR
                clear hR
                go_simp
                exact hK _ _ (Below.refl _ _) rfl
              · intro ra RW hR hk hd K hK
                obtain ⟨v74, e74, g74, f74⟩ := hd 4 74 (by kernel_rfl) rfl
                have f74 : v74 = .pointer (some ⟨pb, po + i * 4, none⟩) := f74
                subst f74
                clear hk hd
                have HR := Lib.hid hR
                clear hR
                go_simp
                exact hK _ _ (Below.refl _ _) rfl
              · intro ra RW hR hk hd K hK
                obtain ⟨v75, e75, g75, f75⟩ := hd 5 75 (by kernel_rfl) rfl
                have f75 : v75 = .pointer (some ⟨pb, po + i * 4, none⟩) := f75
                subst f75
                clear hk hd
                have HR := Lib.hid hR
                clear hR
                have dd0 := (HR.out.cell (p := ⟨pb, po + i * 4, none⟩) hpw).trans z0
                go_simp
                exact hK _ _ (Below.refl _ _) rfl
              · intro ra RW hR hk hd K hK
                obtain ⟨v76, e76, g76, f76⟩ := hd 6 76 (by kernel_rfl) rfl
                have f76 : v76 = .int .i64 x.r.n := f76
                subst f76
                clear hk hd
                have HR := Lib.hid hR
                clear hR
                go_simp
                refine (HD.out RW).mono ?_
                rintro e w2 ⟨rfl, hb2⟩
                exact hK _ _ hb2 rfl
              · intro ra RW hR hk hd K hK
                obtain ⟨e11, g11⟩ := hk 11 (.string ⟨#[45]⟩) (by kernel_rfl) rfl
                clear hk hd
                have HR := Lib.hid hR
                clear hR
                go_simp
                exact hK _ _ (Below.refl _ _) rfl
              · intro ra RW hR hk hd K hK
                obtain ⟨v77, e77, g77, f77⟩ := hd 7 77 (by kernel_rfl) rfl
                have f77 : v77 = .string NS := f77
                subst f77
                obtain ⟨v78, e78, g78, f78⟩ := hd 8 78 (by kernel_rfl) rfl
                have f78 : v78 = .string ⟨#[45]⟩ := f78
                subst f78
                clear hk hd
                have HR := Lib.hid hR
                clear hR
                go_simp
                rw [if_neg (by omega)]
                go_simp
                exact hK _ _ (Below.refl _ _) rfl
              · intro ra RW hR hk hd K hK
                obtain ⟨e0, g0⟩ := hk 0 (.slice (some ⟨pb, po, none⟩) n c) (by kernel_rfl) rfl
                clear hk hd
                have HR := Lib.hid hR
                clear hR
                go_simp
                exact hK _ _ (Below.refl _ _) rfl
              · intro ra RW hR hk hd K hK
                obtain ⟨e9, g9⟩ := hk 9 (.int .i64 (i : Int)) (by kernel_rfl) rfl
                clear hk hd
                have HR := Lib.hid hR
                clear hR
                go_simp
                exact hK _ _ (Below.refl _ _) rfl
              · intro ra RW hR hk hd K hK
                obtain ⟨v80, e80, g80, f80⟩ := hd 10 80 (by kernel_rfl) rfl
                have f80 : v80 = .slice (some ⟨pb, po, none⟩) n c := f80
                subst f80
                obtain ⟨v81, e81, g81, f81⟩ := hd 11 81 (by kernel_rfl) rfl
                have f81 : v81 = .int .i64 (i : Int) := f81
                subst f81
                clear hk hd
                have HR := Lib.hid hR
                clear hR
                go_simp
                exact hK _ _ (Below.refl _ _) rfl
              · intro ra RW hR hk hd K hK
                obtain ⟨v82, e82, g82, f82⟩ := hd 12 82 (by kernel_rfl) rfl
                have f82 : v82 = .pointer (some ⟨pb, po + i * 4, none⟩) := f82
                subst f82
                clear hk hd
                have HR := Lib.hid hR
                clear hR
                go_simp
                exact hK _ _ (Below.refl _ _) rfl
              · intro ra RW hR hk hd K hK
                obtain ⟨v83, e83, g83, f83⟩ := hd 13 83 (by kernel_rfl) rfl
                have f83 : v83 = .pointer (some ⟨pb, po + i * 4, none⟩) := f83
                subst f83
                clear hk hd
                have HR := Lib.hid hR
                clear hR
                go_simp
                exact hK _ _ (Below.refl _ _) rfl
              · intro ra RW hR hk hd K hK
                obtain ⟨v84, e84, g84, f84⟩ := hd 14 84 (by kernel_rfl) rfl
                have f84 : v84 = .pointer (some ⟨pb, po + i * 4 + 2, none⟩) := f84
                subst f84
                clear hk hd
                have HR := Lib.hid hR
                clear hR
                have dd0 := (HR.out.cell (p := ⟨pb, po + i * 4 + 2, none⟩) hpw).trans z2
                go_simp
                exact hK _ _ (Below.refl _ _) rfl
              · intro ra RW hR hk hd K hK
                obtain ⟨v79, e79, g79, f79⟩ := hd 9 79 (by kernel_rfl) rfl
                have f79 : v79 = .string (NS ++ ⟨#[45]⟩) := f79
                subst f79
                obtain ⟨v85, e85, g85, f85⟩ := hd 15 85 (by kernel_rfl) rfl
                have f85 : v85 = .string TX := f85
                subst f85
                clear hk hd
                have HR := Lib.hid hR
                clear hR
                go_simp
                rw [if_neg (by omega)]
                go_simp
                exact hK _ _ (Below.refl _ _) (by rw [HLV.out]; rfl)
              · intro ra RW hR hk hd K hK
                obtain ⟨v86, e86, g86, f86⟩ := hd 16 86 (by kernel_rfl) rfl
                have f86 : v86 = .string LV := f86
                subst f86
                clear hk hd
                have HR := Lib.hid hR
                clear hR
                go_simp
                exact hK _ _ (below_al (Below.refl _ _) _) (newsRow_mk _ _)
            intro vs RW hR hF
            have q0 : vs 0 = .slice Ao le co := hF 0 (by decide)
            have q1 : vs 1 = .slice (some ⟨pb, po, none⟩) n c := hF 1 (by decide)
            have q2 : vs 2 = .int .i64 (i : Int) := hF 2 (by decide)
            have q3 : vs 3 = .pointer (some ⟨pb, po + i * 4, none⟩) := hF 3 (by decide)
            have q4 : vs 4 = .pointer (some ⟨pb, po + i * 4, none⟩) := hF 4 (by decide)
            have q5 : vs 5 = .pointer (some ⟨pb, po + i * 4, none⟩) := hF 5 (by decide)
            have q6 : vs 6 = .int .i64 x.r.n := hF 6 (by decide)
            have q7 : vs 7 = .string NS := hF 7 (by decide)
            have q8 : vs 8 = .string ⟨#[45]⟩ := hF 8 (by decide)
            have q9 : vs 9 = .string (NS ++ ⟨#[45]⟩) := hF 9 (by decide)
            have q10 : vs 10 = .slice (some ⟨pb, po, none⟩) n c := hF 10 (by decide)
            have q11 : vs 11 = .int .i64 (i : Int) := hF 11 (by decide)
            have q12 : vs 12 = .pointer (some ⟨pb, po + i * 4, none⟩) := hF 12 (by decide)
            have q13 : vs 13 = .pointer (some ⟨pb, po + i * 4, none⟩) := hF 13 (by decide)
            have q14 : vs 14 = .pointer (some ⟨pb, po + i * 4 + 2, none⟩) := hF 14 (by decide)
            have q15 : vs 15 = .string TX := hF 15 (by decide)
            have q16 : vs 16 = .string LV := hF 16 (by decide)
            have F87 := Lib.hid (hF 17 (by decide))
            simp only [List.take_succ_cons, List.take_zero, List.drop_succ_cons, List.drop_zero, setAll, List.setIfInBounds_toArray, List.set_cons_zero, List.set_cons_succ, q0, q1, q2, q3, q4, q5, q6, q7, q8, q9, q10, q11, q12, q13, q14, q15, q16]
            clear hF q0 q1 q2 q3 q4 q5 q6 q7 q8 q9 q10 q11 q12 q13 q14 q15 q16
            generalize vs 17 = v87 at *
            clear vs

            obtain ⟨g87, rfl, hblk⟩ := F87.out
            have HOW6 := Lib.hid (HOWN5.out.drew.below hR (fun kk hk => HOWN5.out.lt hk))
            have HLI := Lib.hid (own_one hblk).rd
            have HB6 := Lib.hid (HB5.out.trans ((below_drewN (Below.refl w.heap.size w55) 1).trans (hR.mono HB5.out.size)))
            clear F87 hblk hR
            go_wp2_with (at_builtin; go_loud (refine wpList_append_rd _ rfl (.tmp 70) (.tmp 87) _ rfl 9 i0 _ 1 16 Tryd.underlying34 hi0 hz0 hz1 hz2 rfl (by omega) (.slice Ao le co) le (lns E0) rfl (by exact HOW6.out) _ _ 1 1 [.string LV] rfl (by exact HLI.out) (by intro v hv; simp at hv; rcases hv with rfl; rfl) (by simp only [maxLen]; omega) (by omega) _ rfl ?_; intro v7 w7 hown7 hgrow7 hat7))
            have hb7 : Below w.heap.size w w7 := ((Only.of_below HB6.out).grown hgrow7 (fun k hk hlt => HK5.out k hk)).below (Nat.le_refl _) (fun k h => h)
            have hk7 : ∀ k, v7.ownBlock = some k → w.heap.size ≤ k := fun k hk => by
              rcases hat7 with h | h
              · exact HK5.out k (h.symm.trans hk)
              · rw [h] at hk; injection hk with hk; have := HB6.out.size; omega
            have HB7 := Lib.hid hb7
            have HK7 := Lib.hid hk7
            have HOWN7 : Hid (Own w7 9 1 v7 (emitI l t (i + 1)).1.length (lns (emitI l t (i + 1)).1)) := by
              show Own _ _ _ _ _ _
              rw [HE5.out]
              show Own _ _ _ _ (E0 ++ [line x.r 45]).length (lns (E0 ++ [line x.r 45]))
              rw [lns_append, List.length_append, HLN5.out, show lns [line x.r 45] = [.string (mk (line x.r 45))] from rfl, HLVV.out]; exact hown7
            have HL7 : Hid (lastV (emitI l t (i + 1)).2 = (i : Int)) := by show _ = _; rw [HE5.out]; rfl
            clear hb7 hk7 hown7 hgrow7 hat7
            go_roundw
            case rel => exact ⟨i + 1, by go_num, by omega, by rw [HL7.out], HOWN7.out, HK7.out, HB7.out⟩
            case measure => simp [intOf]; omega

          | false =>
            go_wp2_with fail
            refine (HNR.out w4 _ _ HB3.out (by omega) (by omega)).mono ?_
            rintro e5 w5 ⟨r2, rfl, hr2, hb5⟩
            have HR2 := Lib.hid hr2
            have HB5 := Lib.hid (HB3.out.trans (hb5.mono HB3.out.size))
            have HW5 := Lib.hid (below_trans HW3.out hb5)
            clear hr2 hb5 HB3 HW3
            have HB3 := HB5
            have HW3 := HW5
            clear HB5 HW5
            cases r2 with
            | true =>
              have DONE : Hid (t i = true) := (HTI.out i).2 (.inr (.inr (by obtain ⟨j, h1, h2, h3⟩ := HR2.out.1 rfl; exact ⟨j, by omega, by omega, h3⟩)))
              go_wp2_with fail
              have hx3 := HX5.out _ HB3.out
              have x0 := hx3.1
              have hem : emit1 l none i = SP ++ [line x.r 45] := by unfold emit1; rw [HSP.out, HRA.out, HHT.out]; rfl
              have hE5 : emitI l t (i + 1) = (E0 ++ SP ++ [line x.r 45], some i) := by rw [emitI_yes l t i DONE.out, HLA.out, hem, HE0.out, List.append_assoc]
              rw [HSPE.out] at hE5
              have HE5 := Lib.hid hE5
              have hlv : (mk (Lib.itoa x.r.n) ++ ⟨#[45]⟩) ++ mk x.r.t = mk (line x.r 45) := by rw [show (⟨#[45]⟩ : ByteArray) = mk [45] from rfl, mk_append, mk_append]; rfl
              rw [HTX.out] at hlv
              obtain ⟨LV, hLV⟩ : ∃ LV, mk (line x.r 45) = LV := ⟨_, rfl⟩
              rw [hLV] at hlv
              have HLVV := Lib.hid hLV
              have HLV := Lib.hid hlv
              have hns : (mk (Lib.itoa x.r.n)).size ≤ 20 := itoa_len _ HXI.out
              have HD := Lib.hid (fun W => digits_any x.r.n HXI.out W)
              clear hx3 hem hE5 hlv hLV
              generalize mk (Lib.itoa x.r.n) = NS at *
              go_quiet (fail)
              have HB5 := Lib.hid (HB3.out.trans (below_drewN (Below.refl w.heap.size w5) nq))
              have HOWN5 := Lib.hid (HOUT.out _ (HW3.out.trans (below_drewN (Below.refl wr.heap.size w5) nq)))
              have HK5 := hok
              have HLN5 := HLE
              have hl5 : le ≤ 2 * i + 1 := by omega
              rw [List.append_nil] at HE5
              generalize w5.drewN nq = w55 at *
              go_wp2_with fail
              have hpw : pb < w55.drew.heap.size := by have : w55.drew.heap.size = w55.heap.size := rfl; have := HB5.out.size; have := HBX.out; omega
              have hx5 := HX5.out _ HB5.out
              have z0 := hx5.1
              have z2 := hx5.2
              clear hx5 x0
              refine region_tail 18 (by kernel_rfl) (by kernel_rfl) (fun W W' => Below W.heap.size W W')
                [.val (.slice Ao le co),
                 .val (.slice (some ⟨pb, po, none⟩) n c),
                 .val (.int .i64 (i : Int)),
                 .val (.pointer (some ⟨pb, po + i * 4, none⟩)),
                 .val (.pointer (some ⟨pb, po + i * 4, none⟩)),
                 .val (.pointer (some ⟨pb, po + i * 4, none⟩)),
                 .val (.int .i64 x.r.n),
                 .val (.string NS),
                 .val (.string ⟨#[45]⟩),
                 .val (.string (NS ++ ⟨#[45]⟩)),
                 .val (.slice (some ⟨pb, po, none⟩) n c),
                 .val (.int .i64 (i : Int)),
                 .val (.pointer (some ⟨pb, po + i * 4, none⟩)),
                 .val (.pointer (some ⟨pb, po + i * 4, none⟩)),
                 .val (.pointer (some ⟨pb, po + i * 4 + 2, none⟩)),
                 .val (.string TX),
                 .val (.string LV),
                 newsRow (.string LV)]
                (fun W => Below.refl _ W) (fun _ _ _ h k => below_trans h k) (by kernel_rfl) ?_ ?_
              · refine ⟨?_, ?_, ?_, ?_, ?_, ?_, ?_, ?_, ?_, ?_, ?_, ?_, ?_, ?_, ?_, ?_, ?_, ?_, trivial⟩
                · intro ra RW hR hk hd K hK
                  obtain ⟨e7, g7⟩ := hk 7 (.slice Ao le co) (by kernel_rfl) rfl
                  clear hk hd
                  have HR := Lib.hid hR
                  clear hR
                  go_simp
                  exact hK _ _ (Below.refl _ _) rfl
                · intro ra RW hR hk hd K hK
                  obtain ⟨e0, g0⟩ := hk 0 (.slice (some ⟨pb, po, none⟩) n c) (by kernel_rfl) rfl
                  clear hk hd
                  have HR := Lib.hid hR
                  clear hR
                  go_simp
                  exact hK _ _ (Below.refl _ _) rfl
                · intro ra RW hR hk hd K hK
                  obtain ⟨e9, g9⟩ := hk 9 (.int .i64 (i : Int)) (by kernel_rfl) rfl
                  clear hk hd
                  have HR := Lib.hid hR
                  clear hR
                  go_simp
                  exact hK _ _ (Below.refl _ _) rfl
                · intro ra RW hR hk hd K hK
                  obtain ⟨v71, e71, g71, f71⟩ := hd 1 71 (by kernel_rfl) rfl
                  have f71 : v71 = .slice (some ⟨pb, po, none⟩) n c := f71
                  subst f71
                  obtain ⟨v72, e72, g72, f72⟩ := hd 2 72 (by kernel_rfl) rfl
                  have f72 : v72 = .int .i64 (i : Int) := f72
                  subst f72
                  clear hk hd
                  have HR := Lib.hid hR
                  clear hR
                  go_simp
                  exact hK _ _ (Below.refl _ _) rfl
                · intro ra RW hR hk hd K hK
                  obtain ⟨v73, e73, g73, f73⟩ := hd 3 73 (by kernel_rfl) rfl
                  have f73 : v73 = .pointer (some ⟨pb, po + i * 4, none⟩) := f73
                  subst f73
                  clear hk hd
                  have HR := Lib.hid hR
                  clear hR
                  go_simp
                  exact hK _ _ (Below.refl _ _) rfl
                · intro ra RW hR hk hd K hK
                  obtain ⟨v74, e74, g74, f74⟩ := hd 4 74 (by kernel_rfl) rfl
                  have f74 : v74 = .pointer (some ⟨pb, po + i * 4, none⟩) := f74
                  subst f74
                  clear hk hd
                  have HR := Lib.hid hR
                  clear hR
                  go_simp
                  exact hK _ _ (Below.refl _ _) rfl
                · intro ra RW hR hk hd K hK
                  obtain ⟨v75, e75, g75, f75⟩ := hd 5 75 (by kernel_rfl) rfl
                  have f75 : v75 = .pointer (some ⟨pb, po + i * 4, none⟩) := f75
                  subst f75
                  clear hk hd
                  have HR := Lib.hid hR
                  clear hR
                  have dd0 := (HR.out.cell (p := ⟨pb, po + i * 4, none⟩) hpw).trans z0
                  go_simp
                  exact hK _ _ (Below.refl _ _) rfl
                · intro ra RW hR hk hd K hK
                  obtain ⟨v76, e76, g76, f76⟩ := hd 6 76 (by kernel_rfl) rfl
                  have f76 : v76 = .int .i64 x.r.n := f76
                  subst f76
                  clear hk hd
                  have HR := Lib.hid hR
                  clear hR
                  go_simp
                  refine (HD.out RW).mono ?_
                  rintro e w2 ⟨rfl, hb2⟩
                  exact hK _ _ hb2 rfl
                · intro ra RW hR hk hd K hK
                  obtain ⟨e11, g11⟩ := hk 11 (.string ⟨#[45]⟩) (by kernel_rfl) rfl
                  clear hk hd
                  have HR := Lib.hid hR
                  clear hR
                  go_simp
                  exact hK _ _ (Below.refl _ _) rfl
                · intro ra RW hR hk hd K hK
                  obtain ⟨v77, e77, g77, f77⟩ := hd 7 77 (by kernel_rfl) rfl
                  have f77 : v77 = .string NS := f77
                  subst f77
                  obtain ⟨v78, e78, g78, f78⟩ := hd 8 78 (by kernel_rfl) rfl
                  have f78 : v78 = .string ⟨#[45]⟩ := f78
                  subst f78
                  clear hk hd
                  have HR := Lib.hid hR
                  clear hR
                  go_simp
                  rw [if_neg (by omega)]
                  go_simp
                  exact hK _ _ (Below.refl _ _) rfl
                · intro ra RW hR hk hd K hK
                  obtain ⟨e0, g0⟩ := hk 0 (.slice (some ⟨pb, po, none⟩) n c) (by kernel_rfl) rfl
                  clear hk hd
                  have HR := Lib.hid hR
                  clear hR
                  go_simp
                  exact hK _ _ (Below.refl _ _) rfl
                · intro ra RW hR hk hd K hK
                  obtain ⟨e9, g9⟩ := hk 9 (.int .i64 (i : Int)) (by kernel_rfl) rfl
                  clear hk hd
                  have HR := Lib.hid hR
                  clear hR
                  go_simp
                  exact hK _ _ (Below.refl _ _) rfl
                · intro ra RW hR hk hd K hK
                  obtain ⟨v80, e80, g80, f80⟩ := hd 10 80 (by kernel_rfl) rfl
                  have f80 : v80 = .slice (some ⟨pb, po, none⟩) n c := f80
                  subst f80
                  obtain ⟨v81, e81, g81, f81⟩ := hd 11 81 (by kernel_rfl) rfl
                  have f81 : v81 = .int .i64 (i : Int) := f81
                  subst f81
                  clear hk hd
                  have HR := Lib.hid hR
                  clear hR
                  go_simp
                  exact hK _ _ (Below.refl _ _) rfl
                · intro ra RW hR hk hd K hK
                  obtain ⟨v82, e82, g82, f82⟩ := hd 12 82 (by kernel_rfl) rfl
                  have f82 : v82 = .pointer (some ⟨pb, po + i * 4, none⟩) := f82
                  subst f82
                  clear hk hd
                  have HR := Lib.hid hR
                  clear hR
                  go_simp
                  exact hK _ _ (Below.refl _ _) rfl
                · intro ra RW hR hk hd K hK
                  obtain ⟨v83, e83, g83, f83⟩ := hd 13 83 (by kernel_rfl) rfl
                  have f83 : v83 = .pointer (some ⟨pb, po + i * 4, none⟩) := f83
                  subst f83
                  clear hk hd
                  have HR := Lib.hid hR
                  clear hR
                  go_simp
                  exact hK _ _ (Below.refl _ _) rfl
                · intro ra RW hR hk hd K hK
                  obtain ⟨v84, e84, g84, f84⟩ := hd 14 84 (by kernel_rfl) rfl
                  have f84 : v84 = .pointer (some ⟨pb, po + i * 4 + 2, none⟩) := f84
                  subst f84
                  clear hk hd
                  have HR := Lib.hid hR
                  clear hR
                  have dd0 := (HR.out.cell (p := ⟨pb, po + i * 4 + 2, none⟩) hpw).trans z2
                  go_simp
                  exact hK _ _ (Below.refl _ _) rfl
                · intro ra RW hR hk hd K hK
                  obtain ⟨v79, e79, g79, f79⟩ := hd 9 79 (by kernel_rfl) rfl
                  have f79 : v79 = .string (NS ++ ⟨#[45]⟩) := f79
                  subst f79
                  obtain ⟨v85, e85, g85, f85⟩ := hd 15 85 (by kernel_rfl) rfl
                  have f85 : v85 = .string TX := f85
                  subst f85
                  clear hk hd
                  have HR := Lib.hid hR
                  clear hR
                  go_simp
                  rw [if_neg (by omega)]
                  go_simp
                  exact hK _ _ (Below.refl _ _) (by rw [HLV.out]; rfl)
                · intro ra RW hR hk hd K hK
                  obtain ⟨v86, e86, g86, f86⟩ := hd 16 86 (by kernel_rfl) rfl
                  have f86 : v86 = .string LV := f86
                  subst f86
                  clear hk hd
                  have HR := Lib.hid hR
                  clear hR
                  go_simp
                  exact hK _ _ (below_al (Below.refl _ _) _) (newsRow_mk _ _)
              intro vs RW hR hF
              have q0 : vs 0 = .slice Ao le co := hF 0 (by decide)
              have q1 : vs 1 = .slice (some ⟨pb, po, none⟩) n c := hF 1 (by decide)
              have q2 : vs 2 = .int .i64 (i : Int) := hF 2 (by decide)
              have q3 : vs 3 = .pointer (some ⟨pb, po + i * 4, none⟩) := hF 3 (by decide)
              have q4 : vs 4 = .pointer (some ⟨pb, po + i * 4, none⟩) := hF 4 (by decide)
              have q5 : vs 5 = .pointer (some ⟨pb, po + i * 4, none⟩) := hF 5 (by decide)
              have q6 : vs 6 = .int .i64 x.r.n := hF 6 (by decide)
              have q7 : vs 7 = .string NS := hF 7 (by decide)
              have q8 : vs 8 = .string ⟨#[45]⟩ := hF 8 (by decide)
              have q9 : vs 9 = .string (NS ++ ⟨#[45]⟩) := hF 9 (by decide)
              have q10 : vs 10 = .slice (some ⟨pb, po, none⟩) n c := hF 10 (by decide)
              have q11 : vs 11 = .int .i64 (i : Int) := hF 11 (by decide)
              have q12 : vs 12 = .pointer (some ⟨pb, po + i * 4, none⟩) := hF 12 (by decide)
              have q13 : vs 13 = .pointer (some ⟨pb, po + i * 4, none⟩) := hF 13 (by decide)
              have q14 : vs 14 = .pointer (some ⟨pb, po + i * 4 + 2, none⟩) := hF 14 (by decide)
              have q15 : vs 15 = .string TX := hF 15 (by decide)
              have q16 : vs 16 = .string LV := hF 16 (by decide)
              have F87 := Lib.hid (hF 17 (by decide))
              simp only [List.take_succ_cons, List.take_zero, List.drop_succ_cons, List.drop_zero, setAll, List.setIfInBounds_toArray, List.set_cons_zero, List.set_cons_succ, q0, q1, q2, q3, q4, q5, q6, q7, q8, q9, q10, q11, q12, q13, q14, q15, q16]
              clear hF q0 q1 q2 q3 q4 q5 q6 q7 q8 q9 q10 q11 q12 q13 q14 q15 q16
              generalize vs 17 = v87 at *
              clear vs

              obtain ⟨g87, rfl, hblk⟩ := F87.out
              have HOW6 := Lib.hid (HOWN5.out.drew.below hR (fun kk hk => HOWN5.out.lt hk))
              have HLI := Lib.hid (own_one hblk).rd
              have HB6 := Lib.hid (HB5.out.trans ((below_drewN (Below.refl w.heap.size w55) 1).trans (hR.mono HB5.out.size)))
              clear F87 hblk hR
              go_wp2_with (at_builtin; go_loud (refine wpList_append_rd _ rfl (.tmp 70) (.tmp 87) _ rfl 9 i0 _ 1 16 Tryd.underlying34 hi0 hz0 hz1 hz2 rfl (by omega) (.slice Ao le co) le (lns E0) rfl (by exact HOW6.out) _ _ 1 1 [.string LV] rfl (by exact HLI.out) (by intro v hv; simp at hv; rcases hv with rfl; rfl) (by simp only [maxLen]; omega) (by omega) _ rfl ?_; intro v7 w7 hown7 hgrow7 hat7))
              have hb7 : Below w.heap.size w w7 := ((Only.of_below HB6.out).grown hgrow7 (fun k hk hlt => HK5.out k hk)).below (Nat.le_refl _) (fun k h => h)
              have hk7 : ∀ k, v7.ownBlock = some k → w.heap.size ≤ k := fun k hk => by
                rcases hat7 with h | h
                · exact HK5.out k (h.symm.trans hk)
                · rw [h] at hk; injection hk with hk; have := HB6.out.size; omega
              have HB7 := Lib.hid hb7
              have HK7 := Lib.hid hk7
              have HOWN7 : Hid (Own w7 9 1 v7 (emitI l t (i + 1)).1.length (lns (emitI l t (i + 1)).1)) := by
                show Own _ _ _ _ _ _
                rw [HE5.out]
                show Own _ _ _ _ (E0 ++ [line x.r 45]).length (lns (E0 ++ [line x.r 45]))
                rw [lns_append, List.length_append, HLN5.out, show lns [line x.r 45] = [.string (mk (line x.r 45))] from rfl, HLVV.out]; exact hown7
              have HL7 : Hid (lastV (emitI l t (i + 1)).2 = (i : Int)) := by show _ = _; rw [HE5.out]; rfl
              clear hb7 hk7 hown7 hgrow7 hat7
              go_roundw
              case rel => exact ⟨i + 1, by go_num, by omega, by rw [HL7.out], HOWN7.out, HK7.out, HB7.out⟩
              case measure => simp [intOf]; omega

            | false =>
              have HNO : Hid (t i = false) := by
                show _ = _
                cases hti : t i with
                | false => rfl
                | true =>
                  rcases (HTI.out i).1 hti with h | ⟨j, h1, h2, h3⟩ | ⟨j, h1, h2, h3⟩
                  · rw [HHT.out] at h; cases h
                  · have := HR1.out.2 ⟨j, by omega, by omega, h3⟩; cases this
                  · have := HR2.out.2 ⟨j, by omega, by omega, h3⟩; cases this
              have HE6 := Lib.hid (emitI_no l t i HNO.out)
              go_wp2_with fail
              go_roundw
              case rel => exact ⟨i + 1, by go_num, by omega, by rw [HE6.out, HLA.out]; rfl, by show Own _ _ _ _ _ _; rw [HE6.out, HE0.out, HLE.out]; exact HOUT.out _ HW3.out, hok.out, HB3.out⟩
              case measure => simp [intOf]; omega
        · have i3 : (0 : Int) < (k : Int) := by omega
          have HHT : Hid (hitAt l i = true) := by show _ = _; rw [HHA.out]; exact decide_eq_true hk0
          have DONE : Hid (t i = true) := (HTI.out i).2 (.inl HHT.out)
          go_wp2_with (go_at_call 23; go_loud (refine HH.out.mono ?_; rintro e3 w3 ⟨v3, rfl, hown3, hk3, hb3⟩; obtain ⟨A3, c3, rfl, -, -⟩ := hown3.len_; have HW3 := Lib.hid hb3; have HB3 := Lib.hid (hbw.out.trans (hb3.mono hbw.out.size)); clear hown3 hk3 hb3))
          have hx3 := HX5.out _ HB3.out
          have x0 := hx3.1
          have hem : emit1 l none i = SP ++ [line x.r 58] := by unfold emit1; rw [HSP.out, HRA.out, HHT.out]; rfl
          have hE5 : emitI l t (i + 1) = (E0 ++ SP ++ [line x.r 58], some i) := by rw [emitI_yes l t i DONE.out, HLA.out, hem, HE0.out, List.append_assoc]
          rw [HSPE.out] at hE5
          have HE5 := Lib.hid hE5
          have hlv : (mk (Lib.itoa x.r.n) ++ ⟨#[58]⟩) ++ mk x.r.t = mk (line x.r 58) := by rw [show (⟨#[58]⟩ : ByteArray) = mk [58] from rfl, mk_append, mk_append]; rfl
          rw [HTX.out] at hlv
          obtain ⟨LV, hLV⟩ : ∃ LV, mk (line x.r 58) = LV := ⟨_, rfl⟩
          rw [hLV] at hlv
          have HLVV := Lib.hid hLV
          have HLV := Lib.hid hlv
          have hns : (mk (Lib.itoa x.r.n)).size ≤ 20 := itoa_len _ HXI.out
          have HD := Lib.hid (fun W => digits_any x.r.n HXI.out W)
          clear hx3 hem hE5 hlv hLV
          generalize mk (Lib.itoa x.r.n) = NS at *
          go_quiet (fail)
          have HB5 := Lib.hid (HB3.out.trans (below_drewN (Below.refl w.heap.size w3) nq))
          have HOWN5 := Lib.hid (HOUT.out _ (HW3.out.trans (below_drewN (Below.refl wr.heap.size w3) nq)))
          have HK5 := hok
          have HLN5 := HLE
          have hl5 : le ≤ 2 * i + 1 := by omega
          rw [List.append_nil] at HE5
          generalize w3.drewN nq = w5 at *
          go_wp2_with fail
          have hpw : pb < w5.drew.heap.size := by have : w5.drew.heap.size = w5.heap.size := rfl; have := HB5.out.size; have := HBX.out; omega
          have hx5 := HX5.out _ HB5.out
          have z0 := hx5.1
          have z2 := hx5.2
          clear hx5 x0
          refine region_tail 18 (by kernel_rfl) (by kernel_rfl) (fun W W' => Below W.heap.size W W')
            [.val (.slice Ao le co),
             .val (.slice (some ⟨pb, po, none⟩) n c),
             .val (.int .i64 (i : Int)),
             .val (.pointer (some ⟨pb, po + i * 4, none⟩)),
             .val (.pointer (some ⟨pb, po + i * 4, none⟩)),
             .val (.pointer (some ⟨pb, po + i * 4, none⟩)),
             .val (.int .i64 x.r.n),
             .val (.string NS),
             .val (.string ⟨#[58]⟩),
             .val (.string (NS ++ ⟨#[58]⟩)),
             .val (.slice (some ⟨pb, po, none⟩) n c),
             .val (.int .i64 (i : Int)),
             .val (.pointer (some ⟨pb, po + i * 4, none⟩)),
             .val (.pointer (some ⟨pb, po + i * 4, none⟩)),
             .val (.pointer (some ⟨pb, po + i * 4 + 2, none⟩)),
             .val (.string TX),
             .val (.string LV),
             newsRow (.string LV)]
            (fun W => Below.refl _ W) (fun _ _ _ h k => below_trans h k) (by kernel_rfl) ?_ ?_
          · refine ⟨?_, ?_, ?_, ?_, ?_, ?_, ?_, ?_, ?_, ?_, ?_, ?_, ?_, ?_, ?_, ?_, ?_, ?_, trivial⟩
            · intro ra RW hR hk hd K hK
              obtain ⟨e7, g7⟩ := hk 7 (.slice Ao le co) (by kernel_rfl) rfl
              clear hk hd
              have HR := Lib.hid hR
              clear hR
              go_simp
              exact hK _ _ (Below.refl _ _) rfl
            · intro ra RW hR hk hd K hK
              obtain ⟨e0, g0⟩ := hk 0 (.slice (some ⟨pb, po, none⟩) n c) (by kernel_rfl) rfl
              clear hk hd
              have HR := Lib.hid hR
              clear hR
              go_simp
              exact hK _ _ (Below.refl _ _) rfl
            · intro ra RW hR hk hd K hK
              obtain ⟨e9, g9⟩ := hk 9 (.int .i64 (i : Int)) (by kernel_rfl) rfl
              clear hk hd
              have HR := Lib.hid hR
              clear hR
              go_simp
              exact hK _ _ (Below.refl _ _) rfl
            · intro ra RW hR hk hd K hK
              obtain ⟨v71, e71, g71, f71⟩ := hd 1 71 (by kernel_rfl) rfl
              have f71 : v71 = .slice (some ⟨pb, po, none⟩) n c := f71
              subst f71
              obtain ⟨v72, e72, g72, f72⟩ := hd 2 72 (by kernel_rfl) rfl
              have f72 : v72 = .int .i64 (i : Int) := f72
              subst f72
              clear hk hd
              have HR := Lib.hid hR
              clear hR
              go_simp
              exact hK _ _ (Below.refl _ _) rfl
            · intro ra RW hR hk hd K hK
              obtain ⟨v73, e73, g73, f73⟩ := hd 3 73 (by kernel_rfl) rfl
              have f73 : v73 = .pointer (some ⟨pb, po + i * 4, none⟩) := f73
              subst f73
              clear hk hd
              have HR := Lib.hid hR
              clear hR
              go_simp
              exact hK _ _ (Below.refl _ _) rfl
            · intro ra RW hR hk hd K hK
              obtain ⟨v74, e74, g74, f74⟩ := hd 4 74 (by kernel_rfl) rfl
              have f74 : v74 = .pointer (some ⟨pb, po + i * 4, none⟩) := f74
              subst f74
              clear hk hd
              have HR := Lib.hid hR
              clear hR
              go_simp
              exact hK _ _ (Below.refl _ _) rfl
            · intro ra RW hR hk hd K hK
              obtain ⟨v75, e75, g75, f75⟩ := hd 5 75 (by kernel_rfl) rfl
              have f75 : v75 = .pointer (some ⟨pb, po + i * 4, none⟩) := f75
              subst f75
              clear hk hd
              have HR := Lib.hid hR
              clear hR
              have dd0 := (HR.out.cell (p := ⟨pb, po + i * 4, none⟩) hpw).trans z0
              go_simp
              exact hK _ _ (Below.refl _ _) rfl
            · intro ra RW hR hk hd K hK
              obtain ⟨v76, e76, g76, f76⟩ := hd 6 76 (by kernel_rfl) rfl
              have f76 : v76 = .int .i64 x.r.n := f76
              subst f76
              clear hk hd
              have HR := Lib.hid hR
              clear hR
              go_simp
              refine (HD.out RW).mono ?_
              rintro e w2 ⟨rfl, hb2⟩
              exact hK _ _ hb2 rfl
            · intro ra RW hR hk hd K hK
              obtain ⟨e11, g11⟩ := hk 11 (.string ⟨#[58]⟩) (by kernel_rfl) rfl
              clear hk hd
              have HR := Lib.hid hR
              clear hR
              go_simp
              exact hK _ _ (Below.refl _ _) rfl
            · intro ra RW hR hk hd K hK
              obtain ⟨v77, e77, g77, f77⟩ := hd 7 77 (by kernel_rfl) rfl
              have f77 : v77 = .string NS := f77
              subst f77
              obtain ⟨v78, e78, g78, f78⟩ := hd 8 78 (by kernel_rfl) rfl
              have f78 : v78 = .string ⟨#[58]⟩ := f78
              subst f78
              clear hk hd
              have HR := Lib.hid hR
              clear hR
              go_simp
              rw [if_neg (by omega)]
              go_simp
              exact hK _ _ (Below.refl _ _) rfl
            · intro ra RW hR hk hd K hK
              obtain ⟨e0, g0⟩ := hk 0 (.slice (some ⟨pb, po, none⟩) n c) (by kernel_rfl) rfl
              clear hk hd
              have HR := Lib.hid hR
              clear hR
              go_simp
              exact hK _ _ (Below.refl _ _) rfl
            · intro ra RW hR hk hd K hK
              obtain ⟨e9, g9⟩ := hk 9 (.int .i64 (i : Int)) (by kernel_rfl) rfl
              clear hk hd
              have HR := Lib.hid hR
              clear hR
              go_simp
              exact hK _ _ (Below.refl _ _) rfl
            · intro ra RW hR hk hd K hK
              obtain ⟨v80, e80, g80, f80⟩ := hd 10 80 (by kernel_rfl) rfl
              have f80 : v80 = .slice (some ⟨pb, po, none⟩) n c := f80
              subst f80
              obtain ⟨v81, e81, g81, f81⟩ := hd 11 81 (by kernel_rfl) rfl
              have f81 : v81 = .int .i64 (i : Int) := f81
              subst f81
              clear hk hd
              have HR := Lib.hid hR
              clear hR
              go_simp
              exact hK _ _ (Below.refl _ _) rfl
            · intro ra RW hR hk hd K hK
              obtain ⟨v82, e82, g82, f82⟩ := hd 12 82 (by kernel_rfl) rfl
              have f82 : v82 = .pointer (some ⟨pb, po + i * 4, none⟩) := f82
              subst f82
              clear hk hd
              have HR := Lib.hid hR
              clear hR
              go_simp
              exact hK _ _ (Below.refl _ _) rfl
            · intro ra RW hR hk hd K hK
              obtain ⟨v83, e83, g83, f83⟩ := hd 13 83 (by kernel_rfl) rfl
              have f83 : v83 = .pointer (some ⟨pb, po + i * 4, none⟩) := f83
              subst f83
              clear hk hd
              have HR := Lib.hid hR
              clear hR
              go_simp
              exact hK _ _ (Below.refl _ _) rfl
            · intro ra RW hR hk hd K hK
              obtain ⟨v84, e84, g84, f84⟩ := hd 14 84 (by kernel_rfl) rfl
              have f84 : v84 = .pointer (some ⟨pb, po + i * 4 + 2, none⟩) := f84
              subst f84
              clear hk hd
              have HR := Lib.hid hR
              clear hR
              have dd0 := (HR.out.cell (p := ⟨pb, po + i * 4 + 2, none⟩) hpw).trans z2
              go_simp
              exact hK _ _ (Below.refl _ _) rfl
            · intro ra RW hR hk hd K hK
              obtain ⟨v79, e79, g79, f79⟩ := hd 9 79 (by kernel_rfl) rfl
              have f79 : v79 = .string (NS ++ ⟨#[58]⟩) := f79
              subst f79
              obtain ⟨v85, e85, g85, f85⟩ := hd 15 85 (by kernel_rfl) rfl
              have f85 : v85 = .string TX := f85
              subst f85
              clear hk hd
              have HR := Lib.hid hR
              clear hR
              go_simp
              rw [if_neg (by omega)]
              go_simp
              exact hK _ _ (Below.refl _ _) (by rw [HLV.out]; rfl)
            · intro ra RW hR hk hd K hK
              obtain ⟨v86, e86, g86, f86⟩ := hd 16 86 (by kernel_rfl) rfl
              have f86 : v86 = .string LV := f86
              subst f86
              clear hk hd
              have HR := Lib.hid hR
              clear hR
              go_simp
              exact hK _ _ (below_al (Below.refl _ _) _) (newsRow_mk _ _)
          intro vs RW hR hF
          have q0 : vs 0 = .slice Ao le co := hF 0 (by decide)
          have q1 : vs 1 = .slice (some ⟨pb, po, none⟩) n c := hF 1 (by decide)
          have q2 : vs 2 = .int .i64 (i : Int) := hF 2 (by decide)
          have q3 : vs 3 = .pointer (some ⟨pb, po + i * 4, none⟩) := hF 3 (by decide)
          have q4 : vs 4 = .pointer (some ⟨pb, po + i * 4, none⟩) := hF 4 (by decide)
          have q5 : vs 5 = .pointer (some ⟨pb, po + i * 4, none⟩) := hF 5 (by decide)
          have q6 : vs 6 = .int .i64 x.r.n := hF 6 (by decide)
          have q7 : vs 7 = .string NS := hF 7 (by decide)
          have q8 : vs 8 = .string ⟨#[58]⟩ := hF 8 (by decide)
          have q9 : vs 9 = .string (NS ++ ⟨#[58]⟩) := hF 9 (by decide)
          have q10 : vs 10 = .slice (some ⟨pb, po, none⟩) n c := hF 10 (by decide)
          have q11 : vs 11 = .int .i64 (i : Int) := hF 11 (by decide)
          have q12 : vs 12 = .pointer (some ⟨pb, po + i * 4, none⟩) := hF 12 (by decide)
          have q13 : vs 13 = .pointer (some ⟨pb, po + i * 4, none⟩) := hF 13 (by decide)
          have q14 : vs 14 = .pointer (some ⟨pb, po + i * 4 + 2, none⟩) := hF 14 (by decide)
          have q15 : vs 15 = .string TX := hF 15 (by decide)
          have q16 : vs 16 = .string LV := hF 16 (by decide)
          have F87 := Lib.hid (hF 17 (by decide))
          simp only [List.take_succ_cons, List.take_zero, List.drop_succ_cons, List.drop_zero, setAll, List.setIfInBounds_toArray, List.set_cons_zero, List.set_cons_succ, q0, q1, q2, q3, q4, q5, q6, q7, q8, q9, q10, q11, q12, q13, q14, q15, q16]
          clear hF q0 q1 q2 q3 q4 q5 q6 q7 q8 q9 q10 q11 q12 q13 q14 q15 q16
          generalize vs 17 = v87 at *
          clear vs

          obtain ⟨g87, rfl, hblk⟩ := F87.out
          have HOW6 := Lib.hid (HOWN5.out.drew.below hR (fun kk hk => HOWN5.out.lt hk))
          have HLI := Lib.hid (own_one hblk).rd
          have HB6 := Lib.hid (HB5.out.trans ((below_drewN (Below.refl w.heap.size w5) 1).trans (hR.mono HB5.out.size)))
          clear F87 hblk hR
          go_wp2_with (at_builtin; go_loud (refine wpList_append_rd _ rfl (.tmp 70) (.tmp 87) _ rfl 9 i0 _ 1 16 Tryd.underlying34 hi0 hz0 hz1 hz2 rfl (by omega) (.slice Ao le co) le (lns E0) rfl (by exact HOW6.out) _ _ 1 1 [.string LV] rfl (by exact HLI.out) (by intro v hv; simp at hv; rcases hv with rfl; rfl) (by simp only [maxLen]; omega) (by omega) _ rfl ?_; intro v7 w7 hown7 hgrow7 hat7))
          have hb7 : Below w.heap.size w w7 := ((Only.of_below HB6.out).grown hgrow7 (fun k hk hlt => HK5.out k hk)).below (Nat.le_refl _) (fun k h => h)
          have hk7 : ∀ k, v7.ownBlock = some k → w.heap.size ≤ k := fun k hk => by
            rcases hat7 with h | h
            · exact HK5.out k (h.symm.trans hk)
            · rw [h] at hk; injection hk with hk; have := HB6.out.size; omega
          have HB7 := Lib.hid hb7
          have HK7 := Lib.hid hk7
          have HOWN7 : Hid (Own w7 9 1 v7 (emitI l t (i + 1)).1.length (lns (emitI l t (i + 1)).1)) := by
            show Own _ _ _ _ _ _
            rw [HE5.out]
            show Own _ _ _ _ (E0 ++ [line x.r 58]).length (lns (E0 ++ [line x.r 58]))
            rw [lns_append, List.length_append, HLN5.out, show lns [line x.r 58] = [.string (mk (line x.r 58))] from rfl, HLVV.out]; exact hown7
          have HL7 : Hid (lastV (emitI l t (i + 1)).2 = (i : Int)) := by show _ = _; rw [HE5.out]; rfl
          clear hb7 hk7 hown7 hgrow7 hat7
          go_roundw
          case rel => exact ⟨i + 1, by go_num, by omega, by rw [HL7.out], HOWN7.out, HK7.out, HB7.out⟩
          case measure => simp [intOf]; omega
      | some kk =>
        have hkk := hela kk rfl
        have hlv0 : lastV (some kk) = (kk : Int) := rfl
        rw [hlv0]
        clear hlv0
        have hkl : kk < l.length := by rw [HL.out]; omega
        have HKK : Hid (∀ W, Below w.heap.size w W → W.cell? ⟨pb, po + kk * 4, none⟩ = some (.int .i64 (rAt l kk).n)) := fun W hb => by
          obtain ⟨pb2, po2, Ah2, ch2, e, h⟩ := (HR.out.below hb hB).2 kk hkl
          injection e with e
          injection e with e1 e2
          subst e1; subst e2
          rw [rAt_get l kk hkl]
          exact h.c0
        have k1 : (kk : Int) < (n : Int) := by omega
        have k2 : (0 : Int) ≤ (kk : Int) := by omega
        obtain ⟨SP, hSP⟩ : ∃ SP, sepN l (some kk) i = SP := ⟨_, rfl⟩
        have HSP := Lib.hid hSP
        have hspe : SP = if (rAt l i).n != wrap64 ((rAt l kk).n + 1) then [[45, 45]] else [] := hSP.symm
        rw [HRA.out] at hspe
        obtain ⟨NK, hNK⟩ : ∃ NK, (rAt l kk).n = NK := ⟨_, rfl⟩
        rw [hNK] at HKK hspe
        clear hSP hkl hNK
        cases hsp : (x.r.n != wrap64 (NK + 1)) with
        | true =>
          have HSPE : Hid (SP = [[45, 45]]) := by show _ = _; rw [hspe, hsp]; rfl
          clear hspe
          rcases Nat.eq_zero_or_pos k with hk0 | hk0
          · subst hk0
            have HHT : Hid (hitAt l i = false) := by show _ = _; rw [HHA.out]; rfl
            go_wp2_with (go_at_call 23; go_loud (refine HH.out.mono ?_; rintro e3 w3 ⟨v3, rfl, hown3, hk3, hb3⟩; obtain ⟨A3, c3, rfl, -, -⟩ := hown3.len_; have HW3 := Lib.hid hb3; have HB3 := Lib.hid (hbw.out.trans (hb3.mono hbw.out.size)); clear hown3 hk3 hb3))
            refine (HNR.out w3 _ _ HB3.out (by omega) (by omega)).mono ?_
            rintro e4 w4 ⟨r1, rfl, hr1, hb4⟩
            have HR1 := Lib.hid hr1
            have HB4 := Lib.hid (HB3.out.trans (hb4.mono HB3.out.size))
            have HW4 := Lib.hid (below_trans HW3.out hb4)
            clear hr1 hb4
            clear HB3 HW3
            have HB3 := HB4
            have HW3 := HW4
            clear HB4 HW4
            cases r1 with
            | true =>
              have DONE : Hid (t i = true) := (HTI.out i).2 (.inr (.inl (by obtain ⟨j, h1, h2, h3⟩ := HR1.out.1 rfl; exact ⟨j, by omega, by omega, h3⟩)))
              go_wp2_with fail
              have hx3 := HX5.out _ HB3.out
              have x0 := hx3.1
              have hem : emit1 l (some kk) i = SP ++ [line x.r 45] := by unfold emit1; rw [HSP.out, HRA.out, HHT.out]; rfl
              have hE5 : emitI l t (i + 1) = (E0 ++ SP ++ [line x.r 45], some i) := by rw [emitI_yes l t i DONE.out, HLA.out, hem, HE0.out, List.append_assoc]
              rw [HSPE.out] at hE5
              have HE5 := Lib.hid hE5
              have hlv : (mk (Lib.itoa x.r.n) ++ ⟨#[45]⟩) ++ mk x.r.t = mk (line x.r 45) := by rw [show (⟨#[45]⟩ : ByteArray) = mk [45] from rfl, mk_append, mk_append]; rfl
              rw [HTX.out] at hlv
              obtain ⟨LV, hLV⟩ : ∃ LV, mk (line x.r 45) = LV := ⟨_, rfl⟩
              rw [hLV] at hlv
              have HLVV := Lib.hid hLV
              have HLV := Lib.hid hlv
              have hns : (mk (Lib.itoa x.r.n)).size ≤ 20 := itoa_len _ HXI.out
              have HD := Lib.hid (fun W => digits_any x.r.n HXI.out W)
              clear hx3 hem hE5 hlv hLV
              generalize mk (Lib.itoa x.r.n) = NS at *
              have y0 := HKK.out _ HB3.out
              go_quiet (fail)
              have HLI := Lib.hid (Own.lit (w4.drewN nq) 9 1 1 #[.string ⟨#[45, 45]⟩] rfl (by decide)).rd
              have HB4 := Lib.hid (below_al (HB3.out.trans (below_drewN (Below.refl w.heap.size w4) nq)) (.cells #[.string ⟨#[45, 45]⟩] 9))
              have HOW4 := Lib.hid (HOUT.out _ (below_al (HW3.out.trans (below_drewN (Below.refl wr.heap.size w4) nq)) (.cells #[.string ⟨#[45, 45]⟩] 9)))
              go_wp2_with (at_builtin; go_loud (refine wpList_append_rd _ rfl (.tmp 65) (.tmp 66) _ rfl 9 i0 _ 1 16 Tryd.underlying34 hi0 hz0 hz1 hz2 rfl (by omega) (.slice Ao le co) le (lns E0) rfl (by exact HOW4.out) _ _ 1 1 [.string ⟨#[45, 45]⟩] rfl (by exact HLI.out) (by intro v hv; simp at hv; rcases hv with rfl; rfl) (by simp only [maxLen]; omega) (by omega) _ rfl ?_; intro v5 w55 hown5 hgrow55 hat5; obtain ⟨Ao5, co5, rfl, -, -⟩ := hown5.len_))
              have hb5 : Below w.heap.size w w55 := ((Only.of_below HB4.out).grown hgrow55 (fun k hk hlt => hok.out k hk)).below (Nat.le_refl _) (fun k h => h)
              have HK5 : Hid (∀ k, (Value.slice Ao5 (le + 1) co5).ownBlock = some k → w.heap.size ≤ k) := fun k hk => by
                rcases hat5 with h | h
                · exact hok.out k (h.symm.trans hk)
                · rw [h] at hk; injection hk with hk; have := HB4.out.size; omega
              have HB5 := Lib.hid hb5
              obtain ⟨ln5, hln5⟩ : ∃ X, le + 1 = X := ⟨_, rfl⟩
              have HOWN5 : Hid (Own w55 9 1 (.slice Ao5 ln5 co5) ln5 (lns (E0 ++ [[45, 45]]))) := by
                show Own _ _ _ _ _ _
                rw [← hln5, lns_append]; exact hown5
              rw [hln5] at HK5 ⊢
              have HLN5 : Hid ((E0 ++ [[45, 45]]).length = ln5) := by show _ = _; rw [List.length_append, HLE.out]; exact hln5
              have hl5 : ln5 ≤ 2 * i + 1 := by omega
              clear hb5 hown5 hgrow55 hat5 hln5 HB4 HOW4 HLI
              obtain ⟨L5, hL5⟩ : ∃ X, E0 ++ [[45, 45]] = X := ⟨_, rfl⟩
              rw [hL5] at HOWN5 HLN5 HE5
              clear hL5
              have hpw : pb < w55.drew.heap.size := by have : w55.drew.heap.size = w55.heap.size := rfl; have := HB5.out.size; have := HBX.out; omega
              have hx5 := HX5.out _ HB5.out
              have z0 := hx5.1
              have z2 := hx5.2
              clear hx5 x0
              refine region_tail 18 (by kernel_rfl) (by kernel_rfl) (fun W W' => Below W.heap.size W W')
                [.val (.slice Ao5 ln5 co5),
                 .val (.slice (some ⟨pb, po, none⟩) n c),
                 .val (.int .i64 (i : Int)),
                 .val (.pointer (some ⟨pb, po + i * 4, none⟩)),
                 .val (.pointer (some ⟨pb, po + i * 4, none⟩)),
                 .val (.pointer (some ⟨pb, po + i * 4, none⟩)),
                 .val (.int .i64 x.r.n),
                 .val (.string NS),
                 .val (.string ⟨#[45]⟩),
                 .val (.string (NS ++ ⟨#[45]⟩)),
                 .val (.slice (some ⟨pb, po, none⟩) n c),
                 .val (.int .i64 (i : Int)),
                 .val (.pointer (some ⟨pb, po + i * 4, none⟩)),
                 .val (.pointer (some ⟨pb, po + i * 4, none⟩)),
                 .val (.pointer (some ⟨pb, po + i * 4 + 2, none⟩)),
                 .val (.string TX),
                 .val (.string LV),
                 newsRow (.string LV)]
                (fun W => Below.refl _ W) (fun _ _ _ h k => below_trans h k) (by kernel_rfl) ?_ ?_
              · refine ⟨?_, ?_, ?_, ?_, ?_, ?_, ?_, ?_, ?_, ?_, ?_, ?_, ?_, ?_, ?_, ?_, ?_, ?_, trivial⟩
                · intro ra RW hR hk hd K hK
                  obtain ⟨e7, g7⟩ := hk 7 (.slice Ao5 ln5 co5) (by kernel_rfl) rfl
                  clear hk hd
                  have HR := Lib.hid hR
                  clear hR
                  go_simp
                  exact hK _ _ (Below.refl _ _) rfl
                · intro ra RW hR hk hd K hK
                  obtain ⟨e0, g0⟩ := hk 0 (.slice (some ⟨pb, po, none⟩) n c) (by kernel_rfl) rfl
                  clear hk hd
                  have HR := Lib.hid hR
                  clear hR
                  go_simp
                  exact hK _ _ (Below.refl _ _) rfl
                · intro ra RW hR hk hd K hK
                  obtain ⟨e9, g9⟩ := hk 9 (.int .i64 (i : Int)) (by kernel_rfl) rfl
                  clear hk hd
                  have HR := Lib.hid hR
                  clear hR
                  go_simp
                  exact hK _ _ (Below.refl _ _) rfl
                · intro ra RW hR hk hd K hK
                  obtain ⟨v71, e71, g71, f71⟩ := hd 1 71 (by kernel_rfl) rfl
                  have f71 : v71 = .slice (some ⟨pb, po, none⟩) n c := f71
                  subst f71
                  obtain ⟨v72, e72, g72, f72⟩ := hd 2 72 (by kernel_rfl) rfl
                  have f72 : v72 = .int .i64 (i : Int) := f72
                  subst f72
                  clear hk hd
                  have HR := Lib.hid hR
                  clear hR
                  go_simp
                  exact hK _ _ (Below.refl _ _) rfl
                · intro ra RW hR hk hd K hK
                  obtain ⟨v73, e73, g73, f73⟩ := hd 3 73 (by kernel_rfl) rfl
                  have f73 : v73 = .pointer (some ⟨pb, po + i * 4, none⟩) := f73
                  subst f73
                  clear hk hd
                  have HR := Lib.hid hR
                  clear hR
                  go_simp
                  exact hK _ _ (Below.refl _ _) rfl
                · intro ra RW hR hk hd K hK
                  obtain ⟨v74, e74, g74, f74⟩ := hd 4 74 (by kernel_rfl) rfl
                  have f74 : v74 = .pointer (some ⟨pb, po + i * 4, none⟩) := f74
                  subst f74
                  clear hk hd
                  have HR := Lib.hid hR
                  clear hR
                  go_simp
                  exact hK _ _ (Below.refl _ _) rfl
                · intro ra RW hR hk hd K hK
                  obtain ⟨v75, e75, g75, f75⟩ := hd 5 75 (by kernel_rfl) rfl
                  have f75 : v75 = .pointer (some ⟨pb, po + i * 4, none⟩) := f75
                  subst f75
                  clear hk hd
                  have HR := Lib.hid hR
                  clear hR
                  have dd0 := (HR.out.cell (p := ⟨pb, po + i * 4, none⟩) hpw).trans z0
                  go_simp
                  exact hK _ _ (Below.refl _ _) rfl
                · intro ra RW hR hk hd K hK
                  obtain ⟨v76, e76, g76, f76⟩ := hd 6 76 (by kernel_rfl) rfl
                  have f76 : v76 = .int .i64 x.r.n := f76
                  subst f76
                  clear hk hd
                  have HR := Lib.hid hR
                  clear hR
                  go_simp
                  refine (HD.out RW).mono ?_
                  rintro e w2 ⟨rfl, hb2⟩
                  exact hK _ _ hb2 rfl
                · intro ra RW hR hk hd K hK
                  obtain ⟨e11, g11⟩ := hk 11 (.string ⟨#[45]⟩) (by kernel_rfl) rfl
                  clear hk hd
                  have HR := Lib.hid hR
                  clear hR
                  go_simp
                  exact hK _ _ (Below.refl _ _) rfl
                · intro ra RW hR hk hd K hK
                  obtain ⟨v77, e77, g77, f77⟩ := hd 7 77 (by kernel_rfl) rfl
                  have f77 : v77 = .string NS := f77
                  subst f77
                  obtain ⟨v78, e78, g78, f78⟩ := hd 8 78 (by kernel_rfl) rfl
                  have f78 : v78 = .string ⟨#[45]⟩ := f78
                  subst f78
                  clear hk hd
                  have HR := Lib.hid hR
                  clear hR
                  go_simp
                  rw [if_neg (by omega)]
                  go_simp
                  exact hK _ _ (Below.refl _ _) rfl
                · intro ra RW hR hk hd K hK
                  obtain ⟨e0, g0⟩ := hk 0 (.slice (some ⟨pb, po, none⟩) n c) (by kernel_rfl) rfl
                  clear hk hd
                  have HR := Lib.hid hR
                  clear hR
                  go_simp
                  exact hK _ _ (Below.refl _ _) rfl
                · intro ra RW hR hk hd K hK
                  obtain ⟨e9, g9⟩ := hk 9 (.int .i64 (i : Int)) (by kernel_rfl) rfl
                  clear hk hd
                  have HR := Lib.hid hR
                  clear hR
                  go_simp
                  exact hK _ _ (Below.refl _ _) rfl
                · intro ra RW hR hk hd K hK
                  obtain ⟨v80, e80, g80, f80⟩ := hd 10 80 (by kernel_rfl) rfl
                  have f80 : v80 = .slice (some ⟨pb, po, none⟩) n c := f80
                  subst f80
                  obtain ⟨v81, e81, g81, f81⟩ := hd 11 81 (by kernel_rfl) rfl
                  have f81 : v81 = .int .i64 (i : Int) := f81
                  subst f81
                  clear hk hd
                  have HR := Lib.hid hR
                  clear hR
                  go_simp
                  exact hK _ _ (Below.refl _ _) rfl
                · intro ra RW hR hk hd K hK
                  obtain ⟨v82, e82, g82, f82⟩ := hd 12 82 (by kernel_rfl) rfl
                  have f82 : v82 = .pointer (some ⟨pb, po + i * 4, none⟩) := f82
                  subst f82
                  clear hk hd
                  have HR := Lib.hid hR
                  clear hR
                  go_simp
                  exact hK _ _ (Below.refl _ _) rfl
                · intro ra RW hR hk hd K hK
                  obtain ⟨v83, e83, g83, f83⟩ := hd 13 83 (by kernel_rfl) rfl
                  have f83 : v83 = .pointer (some ⟨pb, po + i * 4, none⟩) := f83
                  subst f83
                  clear hk hd
                  have HR := Lib.hid hR
                  clear hR
                  go_simp
                  exact hK _ _ (Below.refl _ _) rfl
                · intro ra RW hR hk hd K hK
                  obtain ⟨v84, e84, g84, f84⟩ := hd 14 84 (by kernel_rfl) rfl
                  have f84 : v84 = .pointer (some ⟨pb, po + i * 4 + 2, none⟩) := f84
                  subst f84
                  clear hk hd
                  have HR := Lib.hid hR
                  clear hR
                  have dd0 := (HR.out.cell (p := ⟨pb, po + i * 4 + 2, none⟩) hpw).trans z2
                  go_simp
                  exact hK _ _ (Below.refl _ _) rfl
                · intro ra RW hR hk hd K hK
                  obtain ⟨v79, e79, g79, f79⟩ := hd 9 79 (by kernel_rfl) rfl
                  have f79 : v79 = .string (NS ++ ⟨#[45]⟩) := f79
                  subst f79
                  obtain ⟨v85, e85, g85, f85⟩ := hd 15 85 (by kernel_rfl) rfl
                  have f85 : v85 = .string TX := f85
                  subst f85
                  clear hk hd
                  have HR := Lib.hid hR
                  clear hR
                  go_simp
                  rw [if_neg (by omega)]
                  go_simp
                  exact hK _ _ (Below.refl _ _) (by rw [HLV.out]; rfl)
                · intro ra RW hR hk hd K hK
                  obtain ⟨v86, e86, g86, f86⟩ := hd 16 86 (by kernel_rfl) rfl
                  have f86 : v86 = .string LV := f86
                  subst f86
                  clear hk hd
                  have HR := Lib.hid hR
                  clear hR
                  go_simp
                  exact hK _ _ (below_al (Below.refl _ _) _) (newsRow_mk _ _)
              intro vs RW hR hF
              have q0 : vs 0 = .slice Ao5 ln5 co5 := hF 0 (by decide)
              have q1 : vs 1 = .slice (some ⟨pb, po, none⟩) n c := hF 1 (by decide)
              have q2 : vs 2 = .int .i64 (i : Int) := hF 2 (by decide)
              have q3 : vs 3 = .pointer (some ⟨pb, po + i * 4, none⟩) := hF 3 (by decide)
              have q4 : vs 4 = .pointer (some ⟨pb, po + i * 4, none⟩) := hF 4 (by decide)
              have q5 : vs 5 = .pointer (some ⟨pb, po + i * 4, none⟩) := hF 5 (by decide)
              have q6 : vs 6 = .int .i64 x.r.n := hF 6 (by decide)
              have q7 : vs 7 = .string NS := hF 7 (by decide)
              have q8 : vs 8 = .string ⟨#[45]⟩ := hF 8 (by decide)
              have q9 : vs 9 = .string (NS ++ ⟨#[45]⟩) := hF 9 (by decide)
              have q10 : vs 10 = .slice (some ⟨pb, po, none⟩) n c := hF 10 (by decide)
              have q11 : vs 11 = .int .i64 (i : Int) := hF 11 (by decide)
              have q12 : vs 12 = .pointer (some ⟨pb, po + i * 4, none⟩) := hF 12 (by decide)
              have q13 : vs 13 = .pointer (some ⟨pb, po + i * 4, none⟩) := hF 13 (by decide)
              have q14 : vs 14 = .pointer (some ⟨pb, po + i * 4 + 2, none⟩) := hF 14 (by decide)
              have q15 : vs 15 = .string TX := hF 15 (by decide)
              have q16 : vs 16 = .string LV := hF 16 (by decide)
              have F87 := Lib.hid (hF 17 (by decide))
              simp only [List.take_succ_cons, List.take_zero, List.drop_succ_cons, List.drop_zero, setAll, List.setIfInBounds_toArray, List.set_cons_zero, List.set_cons_succ, q0, q1, q2, q3, q4, q5, q6, q7, q8, q9, q10, q11, q12, q13, q14, q15, q16]
              clear hF q0 q1 q2 q3 q4 q5 q6 q7 q8 q9 q10 q11 q12 q13 q14 q15 q16
              generalize vs 17 = v87 at *
              clear vs

              obtain ⟨g87, rfl, hblk⟩ := F87.out
              have HOW6 := Lib.hid (HOWN5.out.drew.below hR (fun kk hk => HOWN5.out.lt hk))
              have HLI := Lib.hid (own_one hblk).rd
              have HB6 := Lib.hid (HB5.out.trans ((below_drewN (Below.refl w.heap.size w55) 1).trans (hR.mono HB5.out.size)))
              clear F87 hblk hR
              go_wp2_with (at_builtin; go_loud (refine wpList_append_rd _ rfl (.tmp 70) (.tmp 87) _ rfl 9 i0 _ 1 16 Tryd.underlying34 hi0 hz0 hz1 hz2 rfl (by omega) (.slice Ao5 ln5 co5) ln5 (lns L5) rfl (by exact HOW6.out) _ _ 1 1 [.string LV] rfl (by exact HLI.out) (by intro v hv; simp at hv; rcases hv with rfl; rfl) (by simp only [maxLen]; omega) (by omega) _ rfl ?_; intro v7 w7 hown7 hgrow7 hat7))
              have hb7 : Below w.heap.size w w7 := ((Only.of_below HB6.out).grown hgrow7 (fun k hk hlt => HK5.out k hk)).below (Nat.le_refl _) (fun k h => h)
              have hk7 : ∀ k, v7.ownBlock = some k → w.heap.size ≤ k := fun k hk => by
                rcases hat7 with h | h
                · exact HK5.out k (h.symm.trans hk)
                · rw [h] at hk; injection hk with hk; have := HB6.out.size; omega
              have HB7 := Lib.hid hb7
              have HK7 := Lib.hid hk7
              have HOWN7 : Hid (Own w7 9 1 v7 (emitI l t (i + 1)).1.length (lns (emitI l t (i + 1)).1)) := by
                show Own _ _ _ _ _ _
                rw [HE5.out]
                show Own _ _ _ _ (L5 ++ [line x.r 45]).length (lns (L5 ++ [line x.r 45]))
                rw [lns_append, List.length_append, HLN5.out, show lns [line x.r 45] = [.string (mk (line x.r 45))] from rfl, HLVV.out]; exact hown7
              have HL7 : Hid (lastV (emitI l t (i + 1)).2 = (i : Int)) := by show _ = _; rw [HE5.out]; rfl
              clear hb7 hk7 hown7 hgrow7 hat7
              go_roundw
              case rel => exact ⟨i + 1, by go_num, by omega, by rw [HL7.out], HOWN7.out, HK7.out, HB7.out⟩
              case measure => simp [intOf]; omega

            | false =>
              go_wp2_with fail
              refine (HNR.out w4 _ _ HB3.out (by omega) (by omega)).mono ?_
              rintro e5 w5 ⟨r2, rfl, hr2, hb5⟩
              have HR2 := Lib.hid hr2
              have HB5 := Lib.hid (HB3.out.trans (hb5.mono HB3.out.size))
              have HW5 := Lib.hid (below_trans HW3.out hb5)
              clear hr2 hb5 HB3 HW3
              have HB3 := HB5
              have HW3 := HW5
              clear HB5 HW5
              cases r2 with
              | true =>
                have DONE : Hid (t i = true) := (HTI.out i).2 (.inr (.inr (by obtain ⟨j, h1, h2, h3⟩ := HR2.out.1 rfl; exact ⟨j, by omega, by omega, h3⟩)))
                go_wp2_with fail
                have hx3 := HX5.out _ HB3.out
                have x0 := hx3.1
                have hem : emit1 l (some kk) i = SP ++ [line x.r 45] := by unfold emit1; rw [HSP.out, HRA.out, HHT.out]; rfl
                have hE5 : emitI l t (i + 1) = (E0 ++ SP ++ [line x.r 45], some i) := by rw [emitI_yes l t i DONE.out, HLA.out, hem, HE0.out, List.append_assoc]
                rw [HSPE.out] at hE5
                have HE5 := Lib.hid hE5
                have hlv : (mk (Lib.itoa x.r.n) ++ ⟨#[45]⟩) ++ mk x.r.t = mk (line x.r 45) := by rw [show (⟨#[45]⟩ : ByteArray) = mk [45] from rfl, mk_append, mk_append]; rfl
                rw [HTX.out] at hlv
                obtain ⟨LV, hLV⟩ : ∃ LV, mk (line x.r 45) = LV := ⟨_, rfl⟩
                rw [hLV] at hlv
                have HLVV := Lib.hid hLV
                have HLV := Lib.hid hlv
                have hns : (mk (Lib.itoa x.r.n)).size ≤ 20 := itoa_len _ HXI.out
                have HD := Lib.hid (fun W => digits_any x.r.n HXI.out W)
                clear hx3 hem hE5 hlv hLV
                generalize mk (Lib.itoa x.r.n) = NS at *
                have y0 := HKK.out _ HB3.out
                go_quiet (fail)
                have HLI := Lib.hid (Own.lit (w5.drewN nq) 9 1 1 #[.string ⟨#[45, 45]⟩] rfl (by decide)).rd
                have HB4 := Lib.hid (below_al (HB3.out.trans (below_drewN (Below.refl w.heap.size w5) nq)) (.cells #[.string ⟨#[45, 45]⟩] 9))
                have HOW4 := Lib.hid (HOUT.out _ (below_al (HW3.out.trans (below_drewN (Below.refl wr.heap.size w5) nq)) (.cells #[.string ⟨#[45, 45]⟩] 9)))
                go_wp2_with (at_builtin; go_loud (refine wpList_append_rd _ rfl (.tmp 65) (.tmp 66) _ rfl 9 i0 _ 1 16 Tryd.underlying34 hi0 hz0 hz1 hz2 rfl (by omega) (.slice Ao le co) le (lns E0) rfl (by exact HOW4.out) _ _ 1 1 [.string ⟨#[45, 45]⟩] rfl (by exact HLI.out) (by intro v hv; simp at hv; rcases hv with rfl; rfl) (by simp only [maxLen]; omega) (by omega) _ rfl ?_; intro v5 w55 hown5 hgrow55 hat5; obtain ⟨Ao5, co5, rfl, -, -⟩ := hown5.len_))
                have hb5 : Below w.heap.size w w55 := ((Only.of_below HB4.out).grown hgrow55 (fun k hk hlt => hok.out k hk)).below (Nat.le_refl _) (fun k h => h)
                have HK5 : Hid (∀ k, (Value.slice Ao5 (le + 1) co5).ownBlock = some k → w.heap.size ≤ k) := fun k hk => by
                  rcases hat5 with h | h
                  · exact hok.out k (h.symm.trans hk)
                  · rw [h] at hk; injection hk with hk; have := HB4.out.size; omega
                have HB5 := Lib.hid hb5
                obtain ⟨ln5, hln5⟩ : ∃ X, le + 1 = X := ⟨_, rfl⟩
                have HOWN5 : Hid (Own w55 9 1 (.slice Ao5 ln5 co5) ln5 (lns (E0 ++ [[45, 45]]))) := by
                  show Own _ _ _ _ _ _
                  rw [← hln5, lns_append]; exact hown5
                rw [hln5] at HK5 ⊢
                have HLN5 : Hid ((E0 ++ [[45, 45]]).length = ln5) := by show _ = _; rw [List.length_append, HLE.out]; exact hln5
                have hl5 : ln5 ≤ 2 * i + 1 := by omega
                clear hb5 hown5 hgrow55 hat5 hln5 HB4 HOW4 HLI
                obtain ⟨L5, hL5⟩ : ∃ X, E0 ++ [[45, 45]] = X := ⟨_, rfl⟩
                rw [hL5] at HOWN5 HLN5 HE5
                clear hL5
                have hpw : pb < w55.drew.heap.size := by have : w55.drew.heap.size = w55.heap.size := rfl; have := HB5.out.size; have := HBX.out; omega
                have hx5 := HX5.out _ HB5.out
                have z0 := hx5.1
                have z2 := hx5.2
                clear hx5 x0
                refine region_tail 18 (by kernel_rfl) (by kernel_rfl) (fun W W' => Below W.heap.size W W')
                  [.val (.slice Ao5 ln5 co5),
                   .val (.slice (some ⟨pb, po, none⟩) n c),
                   .val (.int .i64 (i : Int)),
                   .val (.pointer (some ⟨pb, po + i * 4, none⟩)),
                   .val (.pointer (some ⟨pb, po + i * 4, none⟩)),
                   .val (.pointer (some ⟨pb, po + i * 4, none⟩)),
                   .val (.int .i64 x.r.n),
                   .val (.string NS),
                   .val (.string ⟨#[45]⟩),
                   .val (.string (NS ++ ⟨#[45]⟩)),
                   .val (.slice (some ⟨pb, po, none⟩) n c),
                   .val (.int .i64 (i : Int)),
                   .val (.pointer (some ⟨pb, po + i * 4, none⟩)),
                   .val (.pointer (some ⟨pb, po + i * 4, none⟩)),
                   .val (.pointer (some ⟨pb, po + i * 4 + 2, none⟩)),
                   .val (.string TX),
                   .val (.string LV),
                   newsRow (.string LV)]
                  (fun W => Below.refl _ W) (fun _ _ _ h k => below_trans h k) (by kernel_rfl) ?_ ?_
                · refine ⟨?_, ?_, ?_, ?_, ?_, ?_, ?_, ?_, ?_, ?_, ?_, ?_, ?_, ?_, ?_, ?_, ?_, ?_, trivial⟩
                  · intro ra RW hR hk hd K hK
                    obtain ⟨e7, g7⟩ := hk 7 (.slice Ao5 ln5 co5) (by kernel_rfl) rfl
                    clear hk hd
                    have HR := Lib.hid hR
                    clear hR
                    go_simp
                    exact hK _ _ (Below.refl _ _) rfl
                  · intro ra RW hR hk hd K hK
                    obtain ⟨e0, g0⟩ := hk 0 (.slice (some ⟨pb, po, none⟩) n c) (by kernel_rfl) rfl
                    clear hk hd
                    have HR := Lib.hid hR
                    clear hR
                    go_simp
                    exact hK _ _ (Below.refl _ _) rfl
                  · intro ra RW hR hk hd K hK
                    obtain ⟨e9, g9⟩ := hk 9 (.int .i64 (i : Int)) (by kernel_rfl) rfl
                    clear hk hd
                    have HR := Lib.hid hR
                    clear hR
                    go_simp
                    exact hK _ _ (Below.refl _ _) rfl
                  · intro ra RW hR hk hd K hK
                    obtain ⟨v71, e71, g71, f71⟩ := hd 1 71 (by kernel_rfl) rfl
                    have f71 : v71 = .slice (some ⟨pb, po, none⟩) n c := f71
                    subst f71
                    obtain ⟨v72, e72, g72, f72⟩ := hd 2 72 (by kernel_rfl) rfl
                    have f72 : v72 = .int .i64 (i : Int) := f72
                    subst f72
                    clear hk hd
                    have HR := Lib.hid hR
                    clear hR
                    go_simp
                    exact hK _ _ (Below.refl _ _) rfl
                  · intro ra RW hR hk hd K hK
                    obtain ⟨v73, e73, g73, f73⟩ := hd 3 73 (by kernel_rfl) rfl
                    have f73 : v73 = .pointer (some ⟨pb, po + i * 4, none⟩) := f73
                    subst f73
                    clear hk hd
                    have HR := Lib.hid hR
                    clear hR
                    go_simp
                    exact hK _ _ (Below.refl _ _) rfl
                  · intro ra RW hR hk hd K hK
                    obtain ⟨v74, e74, g74, f74⟩ := hd 4 74 (by kernel_rfl) rfl
                    have f74 : v74 = .pointer (some ⟨pb, po + i * 4, none⟩) := f74
                    subst f74
                    clear hk hd
                    have HR := Lib.hid hR
                    clear hR
                    go_simp
                    exact hK _ _ (Below.refl _ _) rfl
                  · intro ra RW hR hk hd K hK
                    obtain ⟨v75, e75, g75, f75⟩ := hd 5 75 (by kernel_rfl) rfl
                    have f75 : v75 = .pointer (some ⟨pb, po + i * 4, none⟩) := f75
                    subst f75
                    clear hk hd
                    have HR := Lib.hid hR
                    clear hR
                    have dd0 := (HR.out.cell (p := ⟨pb, po + i * 4, none⟩) hpw).trans z0
                    go_simp
                    exact hK _ _ (Below.refl _ _) rfl
                  · intro ra RW hR hk hd K hK
                    obtain ⟨v76, e76, g76, f76⟩ := hd 6 76 (by kernel_rfl) rfl
                    have f76 : v76 = .int .i64 x.r.n := f76
                    subst f76
                    clear hk hd
                    have HR := Lib.hid hR
                    clear hR
                    go_simp
                    refine (HD.out RW).mono ?_
                    rintro e w2 ⟨rfl, hb2⟩
                    exact hK _ _ hb2 rfl
                  · intro ra RW hR hk hd K hK
                    obtain ⟨e11, g11⟩ := hk 11 (.string ⟨#[45]⟩) (by kernel_rfl) rfl
                    clear hk hd
                    have HR := Lib.hid hR
                    clear hR
                    go_simp
                    exact hK _ _ (Below.refl _ _) rfl
                  · intro ra RW hR hk hd K hK
                    obtain ⟨v77, e77, g77, f77⟩ := hd 7 77 (by kernel_rfl) rfl
                    have f77 : v77 = .string NS := f77
                    subst f77
                    obtain ⟨v78, e78, g78, f78⟩ := hd 8 78 (by kernel_rfl) rfl
                    have f78 : v78 = .string ⟨#[45]⟩ := f78
                    subst f78
                    clear hk hd
                    have HR := Lib.hid hR
                    clear hR
                    go_simp
                    rw [if_neg (by omega)]
                    go_simp
                    exact hK _ _ (Below.refl _ _) rfl
                  · intro ra RW hR hk hd K hK
                    obtain ⟨e0, g0⟩ := hk 0 (.slice (some ⟨pb, po, none⟩) n c) (by kernel_rfl) rfl
                    clear hk hd
                    have HR := Lib.hid hR
                    clear hR
                    go_simp
                    exact hK _ _ (Below.refl _ _) rfl
                  · intro ra RW hR hk hd K hK
                    obtain ⟨e9, g9⟩ := hk 9 (.int .i64 (i : Int)) (by kernel_rfl) rfl
                    clear hk hd
                    have HR := Lib.hid hR
                    clear hR
                    go_simp
                    exact hK _ _ (Below.refl _ _) rfl
                  · intro ra RW hR hk hd K hK
                    obtain ⟨v80, e80, g80, f80⟩ := hd 10 80 (by kernel_rfl) rfl
                    have f80 : v80 = .slice (some ⟨pb, po, none⟩) n c := f80
                    subst f80
                    obtain ⟨v81, e81, g81, f81⟩ := hd 11 81 (by kernel_rfl) rfl
                    have f81 : v81 = .int .i64 (i : Int) := f81
                    subst f81
                    clear hk hd
                    have HR := Lib.hid hR
                    clear hR
                    go_simp
                    exact hK _ _ (Below.refl _ _) rfl
                  · intro ra RW hR hk hd K hK
                    obtain ⟨v82, e82, g82, f82⟩ := hd 12 82 (by kernel_rfl) rfl
                    have f82 : v82 = .pointer (some ⟨pb, po + i * 4, none⟩) := f82
                    subst f82
                    clear hk hd
                    have HR := Lib.hid hR
                    clear hR
                    go_simp
                    exact hK _ _ (Below.refl _ _) rfl
                  · intro ra RW hR hk hd K hK
                    obtain ⟨v83, e83, g83, f83⟩ := hd 13 83 (by kernel_rfl) rfl
                    have f83 : v83 = .pointer (some ⟨pb, po + i * 4, none⟩) := f83
                    subst f83
                    clear hk hd
                    have HR := Lib.hid hR
                    clear hR
                    go_simp
                    exact hK _ _ (Below.refl _ _) rfl
                  · intro ra RW hR hk hd K hK
                    obtain ⟨v84, e84, g84, f84⟩ := hd 14 84 (by kernel_rfl) rfl
                    have f84 : v84 = .pointer (some ⟨pb, po + i * 4 + 2, none⟩) := f84
                    subst f84
                    clear hk hd
                    have HR := Lib.hid hR
                    clear hR
                    have dd0 := (HR.out.cell (p := ⟨pb, po + i * 4 + 2, none⟩) hpw).trans z2
                    go_simp
                    exact hK _ _ (Below.refl _ _) rfl
                  · intro ra RW hR hk hd K hK
                    obtain ⟨v79, e79, g79, f79⟩ := hd 9 79 (by kernel_rfl) rfl
                    have f79 : v79 = .string (NS ++ ⟨#[45]⟩) := f79
                    subst f79
                    obtain ⟨v85, e85, g85, f85⟩ := hd 15 85 (by kernel_rfl) rfl
                    have f85 : v85 = .string TX := f85
                    subst f85
                    clear hk hd
                    have HR := Lib.hid hR
                    clear hR
                    go_simp
                    rw [if_neg (by omega)]
                    go_simp
                    exact hK _ _ (Below.refl _ _) (by rw [HLV.out]; rfl)
                  · intro ra RW hR hk hd K hK
                    obtain ⟨v86, e86, g86, f86⟩ := hd 16 86 (by kernel_rfl) rfl
                    have f86 : v86 = .string LV := f86
                    subst f86
                    clear hk hd
                    have HR := Lib.hid hR
                    clear hR
                    go_simp
                    exact hK _ _ (below_al (Below.refl _ _) _) (newsRow_mk _ _)
                intro vs RW hR hF
                have q0 : vs 0 = .slice Ao5 ln5 co5 := hF 0 (by decide)
                have q1 : vs 1 = .slice (some ⟨pb, po, none⟩) n c := hF 1 (by decide)
                have q2 : vs 2 = .int .i64 (i : Int) := hF 2 (by decide)
                have q3 : vs 3 = .pointer (some ⟨pb, po + i * 4, none⟩) := hF 3 (by decide)
                have q4 : vs 4 = .pointer (some ⟨pb, po + i * 4, none⟩) := hF 4 (by decide)
                have q5 : vs 5 = .pointer (some ⟨pb, po + i * 4, none⟩) := hF 5 (by decide)
                have q6 : vs 6 = .int .i64 x.r.n := hF 6 (by decide)
                have q7 : vs 7 = .string NS := hF 7 (by decide)
                have q8 : vs 8 = .string ⟨#[45]⟩ := hF 8 (by decide)
                have q9 : vs 9 = .string (NS ++ ⟨#[45]⟩) := hF 9 (by decide)
                have q10 : vs 10 = .slice (some ⟨pb, po, none⟩) n c := hF 10 (by decide)
                have q11 : vs 11 = .int .i64 (i : Int) := hF 11 (by decide)
                have q12 : vs 12 = .pointer (some ⟨pb, po + i * 4, none⟩) := hF 12 (by decide)
                have q13 : vs 13 = .pointer (some ⟨pb, po + i * 4, none⟩) := hF 13 (by decide)
                have q14 : vs 14 = .pointer (some ⟨pb, po + i * 4 + 2, none⟩) := hF 14 (by decide)
                have q15 : vs 15 = .string TX := hF 15 (by decide)
                have q16 : vs 16 = .string LV := hF 16 (by decide)
                have F87 := Lib.hid (hF 17 (by decide))
                simp only [List.take_succ_cons, List.take_zero, List.drop_succ_cons, List.drop_zero, setAll, List.setIfInBounds_toArray, List.set_cons_zero, List.set_cons_succ, q0, q1, q2, q3, q4, q5, q6, q7, q8, q9, q10, q11, q12, q13, q14, q15, q16]
                clear hF q0 q1 q2 q3 q4 q5 q6 q7 q8 q9 q10 q11 q12 q13 q14 q15 q16
                generalize vs 17 = v87 at *
                clear vs

                obtain ⟨g87, rfl, hblk⟩ := F87.out
                have HOW6 := Lib.hid (HOWN5.out.drew.below hR (fun kk hk => HOWN5.out.lt hk))
                have HLI := Lib.hid (own_one hblk).rd
                have HB6 := Lib.hid (HB5.out.trans ((below_drewN (Below.refl w.heap.size w55) 1).trans (hR.mono HB5.out.size)))
                clear F87 hblk hR
                go_wp2_with (at_builtin; go_loud (refine wpList_append_rd _ rfl (.tmp 70) (.tmp 87) _ rfl 9 i0 _ 1 16 Tryd.underlying34 hi0 hz0 hz1 hz2 rfl (by omega) (.slice Ao5 ln5 co5) ln5 (lns L5) rfl (by exact HOW6.out) _ _ 1 1 [.string LV] rfl (by exact HLI.out) (by intro v hv; simp at hv; rcases hv with rfl; rfl) (by simp only [maxLen]; omega) (by omega) _ rfl ?_; intro v7 w7 hown7 hgrow7 hat7))
                have hb7 : Below w.heap.size w w7 := ((Only.of_below HB6.out).grown hgrow7 (fun k hk hlt => HK5.out k hk)).below (Nat.le_refl _) (fun k h => h)
                have hk7 : ∀ k, v7.ownBlock = some k → w.heap.size ≤ k := fun k hk => by
                  rcases hat7 with h | h
                  · exact HK5.out k (h.symm.trans hk)
                  · rw [h] at hk; injection hk with hk; have := HB6.out.size; omega
                have HB7 := Lib.hid hb7
                have HK7 := Lib.hid hk7
                have HOWN7 : Hid (Own w7 9 1 v7 (emitI l t (i + 1)).1.length (lns (emitI l t (i + 1)).1)) := by
                  show Own _ _ _ _ _ _
                  rw [HE5.out]
                  show Own _ _ _ _ (L5 ++ [line x.r 45]).length (lns (L5 ++ [line x.r 45]))
                  rw [lns_append, List.length_append, HLN5.out, show lns [line x.r 45] = [.string (mk (line x.r 45))] from rfl, HLVV.out]; exact hown7
                have HL7 : Hid (lastV (emitI l t (i + 1)).2 = (i : Int)) := by show _ = _; rw [HE5.out]; rfl
                clear hb7 hk7 hown7 hgrow7 hat7
                go_roundw
                case rel => exact ⟨i + 1, by go_num, by omega, by rw [HL7.out], HOWN7.out, HK7.out, HB7.out⟩
                case measure => simp [intOf]; omega

              | false =>
                have HNO : Hid (t i = false) := by
                  show _ = _
                  cases hti : t i with
                  | false => rfl
                  | true =>
                    rcases (HTI.out i).1 hti with h | ⟨j, h1, h2, h3⟩ | ⟨j, h1, h2, h3⟩
                    · rw [HHT.out] at h; cases h
                    · have := HR1.out.2 ⟨j, by omega, by omega, h3⟩; cases this
                    · have := HR2.out.2 ⟨j, by omega, by omega, h3⟩; cases this
                have HE6 := Lib.hid (emitI_no l t i HNO.out)
                go_wp2_with fail
                go_roundw
                case rel => exact ⟨i + 1, by go_num, by omega, by rw [HE6.out, HLA.out]; rfl, by show Own _ _ _ _ _ _; rw [HE6.out, HE0.out, HLE.out]; exact HOUT.out _ HW3.out, hok.out, HB3.out⟩
                case measure => simp [intOf]; omega
          · have i3 : (0 : Int) < (k : Int) := by omega
            have HHT : Hid (hitAt l i = true) := by show _ = _; rw [HHA.out]; exact decide_eq_true hk0
            have DONE : Hid (t i = true) := (HTI.out i).2 (.inl HHT.out)
            go_wp2_with (go_at_call 23; go_loud (refine HH.out.mono ?_; rintro e3 w3 ⟨v3, rfl, hown3, hk3, hb3⟩; obtain ⟨A3, c3, rfl, -, -⟩ := hown3.len_; have HW3 := Lib.hid hb3; have HB3 := Lib.hid (hbw.out.trans (hb3.mono hbw.out.size)); clear hown3 hk3 hb3))
            have hx3 := HX5.out _ HB3.out
            have x0 := hx3.1
            have hem : emit1 l (some kk) i = SP ++ [line x.r 58] := by unfold emit1; rw [HSP.out, HRA.out, HHT.out]; rfl
            have hE5 : emitI l t (i + 1) = (E0 ++ SP ++ [line x.r 58], some i) := by rw [emitI_yes l t i DONE.out, HLA.out, hem, HE0.out, List.append_assoc]
            rw [HSPE.out] at hE5
            have HE5 := Lib.hid hE5
            have hlv : (mk (Lib.itoa x.r.n) ++ ⟨#[58]⟩) ++ mk x.r.t = mk (line x.r 58) := by rw [show (⟨#[58]⟩ : ByteArray) = mk [58] from rfl, mk_append, mk_append]; rfl
            rw [HTX.out] at hlv
            obtain ⟨LV, hLV⟩ : ∃ LV, mk (line x.r 58) = LV := ⟨_, rfl⟩
            rw [hLV] at hlv
            have HLVV := Lib.hid hLV
            have HLV := Lib.hid hlv
            have hns : (mk (Lib.itoa x.r.n)).size ≤ 20 := itoa_len _ HXI.out
            have HD := Lib.hid (fun W => digits_any x.r.n HXI.out W)
            clear hx3 hem hE5 hlv hLV
            generalize mk (Lib.itoa x.r.n) = NS at *
            have y0 := HKK.out _ HB3.out
            go_quiet (fail)
            have HLI := Lib.hid (Own.lit (w3.drewN nq) 9 1 1 #[.string ⟨#[45, 45]⟩] rfl (by decide)).rd
            have HB4 := Lib.hid (below_al (HB3.out.trans (below_drewN (Below.refl w.heap.size w3) nq)) (.cells #[.string ⟨#[45, 45]⟩] 9))
            have HOW4 := Lib.hid (HOUT.out _ (below_al (HW3.out.trans (below_drewN (Below.refl wr.heap.size w3) nq)) (.cells #[.string ⟨#[45, 45]⟩] 9)))
            go_wp2_with (at_builtin; go_loud (refine wpList_append_rd _ rfl (.tmp 65) (.tmp 66) _ rfl 9 i0 _ 1 16 Tryd.underlying34 hi0 hz0 hz1 hz2 rfl (by omega) (.slice Ao le co) le (lns E0) rfl (by exact HOW4.out) _ _ 1 1 [.string ⟨#[45, 45]⟩] rfl (by exact HLI.out) (by intro v hv; simp at hv; rcases hv with rfl; rfl) (by simp only [maxLen]; omega) (by omega) _ rfl ?_; intro v5 w5 hown5 hgrow5 hat5; obtain ⟨Ao5, co5, rfl, -, -⟩ := hown5.len_))
            have hb5 : Below w.heap.size w w5 := ((Only.of_below HB4.out).grown hgrow5 (fun k hk hlt => hok.out k hk)).below (Nat.le_refl _) (fun k h => h)
            have HK5 : Hid (∀ k, (Value.slice Ao5 (le + 1) co5).ownBlock = some k → w.heap.size ≤ k) := fun k hk => by
              rcases hat5 with h | h
              · exact hok.out k (h.symm.trans hk)
              · rw [h] at hk; injection hk with hk; have := HB4.out.size; omega
            have HB5 := Lib.hid hb5
            obtain ⟨ln5, hln5⟩ : ∃ X, le + 1 = X := ⟨_, rfl⟩
            have HOWN5 : Hid (Own w5 9 1 (.slice Ao5 ln5 co5) ln5 (lns (E0 ++ [[45, 45]]))) := by
              show Own _ _ _ _ _ _
              rw [← hln5, lns_append]; exact hown5
            rw [hln5] at HK5 ⊢
            have HLN5 : Hid ((E0 ++ [[45, 45]]).length = ln5) := by show _ = _; rw [List.length_append, HLE.out]; exact hln5
            have hl5 : ln5 ≤ 2 * i + 1 := by omega
            clear hb5 hown5 hgrow5 hat5 hln5 HB4 HOW4 HLI
            obtain ⟨L5, hL5⟩ : ∃ X, E0 ++ [[45, 45]] = X := ⟨_, rfl⟩
            rw [hL5] at HOWN5 HLN5 HE5
            clear hL5
            have hpw : pb < w5.drew.heap.size := by have : w5.drew.heap.size = w5.heap.size := rfl; have := HB5.out.size; have := HBX.out; omega
            have hx5 := HX5.out _ HB5.out
            have z0 := hx5.1
            have z2 := hx5.2
            clear hx5 x0
            refine region_tail 18 (by kernel_rfl) (by kernel_rfl) (fun W W' => Below W.heap.size W W')
              [.val (.slice Ao5 ln5 co5),
               .val (.slice (some ⟨pb, po, none⟩) n c),
               .val (.int .i64 (i : Int)),
               .val (.pointer (some ⟨pb, po + i * 4, none⟩)),
               .val (.pointer (some ⟨pb, po + i * 4, none⟩)),
               .val (.pointer (some ⟨pb, po + i * 4, none⟩)),
               .val (.int .i64 x.r.n),
               .val (.string NS),
               .val (.string ⟨#[58]⟩),
               .val (.string (NS ++ ⟨#[58]⟩)),
               .val (.slice (some ⟨pb, po, none⟩) n c),
               .val (.int .i64 (i : Int)),
               .val (.pointer (some ⟨pb, po + i * 4, none⟩)),
               .val (.pointer (some ⟨pb, po + i * 4, none⟩)),
               .val (.pointer (some ⟨pb, po + i * 4 + 2, none⟩)),
               .val (.string TX),
               .val (.string LV),
               newsRow (.string LV)]
              (fun W => Below.refl _ W) (fun _ _ _ h k => below_trans h k) (by kernel_rfl) ?_ ?_
            · refine ⟨?_, ?_, ?_, ?_, ?_, ?_, ?_, ?_, ?_, ?_, ?_, ?_, ?_, ?_, ?_, ?_, ?_, ?_, trivial⟩
              · intro ra RW hR hk hd K hK
                obtain ⟨e7, g7⟩ := hk 7 (.slice Ao5 ln5 co5) (by kernel_rfl) rfl
                clear hk hd
                have HR := Lib.hid hR
                clear hR
                go_simp
                exact hK _ _ (Below.refl _ _) rfl
              · intro ra RW hR hk hd K hK
                obtain ⟨e0, g0⟩ := hk 0 (.slice (some ⟨pb, po, none⟩) n c) (by kernel_rfl) rfl
                clear hk hd
                have HR := Lib.hid hR
                clear hR
                go_simp
                exact hK _ _ (Below.refl _ _) rfl
              · intro ra RW hR hk hd K hK
                obtain ⟨e9, g9⟩ := hk 9 (.int .i64 (i : Int)) (by kernel_rfl) rfl
                clear hk hd
                have HR := Lib.hid hR
                clear hR
                go_simp
                exact hK _ _ (Below.refl _ _) rfl
              · intro ra RW hR hk hd K hK
                obtain ⟨v71, e71, g71, f71⟩ := hd 1 71 (by kernel_rfl) rfl
                have f71 : v71 = .slice (some ⟨pb, po, none⟩) n c := f71
                subst f71
                obtain ⟨v72, e72, g72, f72⟩ := hd 2 72 (by kernel_rfl) rfl
                have f72 : v72 = .int .i64 (i : Int) := f72
                subst f72
                clear hk hd
                have HR := Lib.hid hR
                clear hR
                go_simp
                exact hK _ _ (Below.refl _ _) rfl
              · intro ra RW hR hk hd K hK
                obtain ⟨v73, e73, g73, f73⟩ := hd 3 73 (by kernel_rfl) rfl
                have f73 : v73 = .pointer (some ⟨pb, po + i * 4, none⟩) := f73
                subst f73
                clear hk hd
                have HR := Lib.hid hR
                clear hR
                go_simp
                exact hK _ _ (Below.refl _ _) rfl
              · intro ra RW hR hk hd K hK
                obtain ⟨v74, e74, g74, f74⟩ := hd 4 74 (by kernel_rfl) rfl
                have f74 : v74 = .pointer (some ⟨pb, po + i * 4, none⟩) := f74
                subst f74
                clear hk hd
                have HR := Lib.hid hR
                clear hR
                go_simp
                exact hK _ _ (Below.refl _ _) rfl
              · intro ra RW hR hk hd K hK
                obtain ⟨v75, e75, g75, f75⟩ := hd 5 75 (by kernel_rfl) rfl
                have f75 : v75 = .pointer (some ⟨pb, po + i * 4, none⟩) := f75
                subst f75
                clear hk hd
                have HR := Lib.hid hR
                clear hR
                have dd0 := (HR.out.cell (p := ⟨pb, po + i * 4, none⟩) hpw).trans z0
                go_simp
                exact hK _ _ (Below.refl _ _) rfl
              · intro ra RW hR hk hd K hK
                obtain ⟨v76, e76, g76, f76⟩ := hd 6 76 (by kernel_rfl) rfl
                have f76 : v76 = .int .i64 x.r.n := f76
                subst f76
                clear hk hd
                have HR := Lib.hid hR
                clear hR
                go_simp
                refine (HD.out RW).mono ?_
                rintro e w2 ⟨rfl, hb2⟩
                exact hK _ _ hb2 rfl
              · intro ra RW hR hk hd K hK
                obtain ⟨e11, g11⟩ := hk 11 (.string ⟨#[58]⟩) (by kernel_rfl) rfl
                clear hk hd
                have HR := Lib.hid hR
                clear hR
                go_simp
                exact hK _ _ (Below.refl _ _) rfl
              · intro ra RW hR hk hd K hK
                obtain ⟨v77, e77, g77, f77⟩ := hd 7 77 (by kernel_rfl) rfl
                have f77 : v77 = .string NS := f77
                subst f77
                obtain ⟨v78, e78, g78, f78⟩ := hd 8 78 (by kernel_rfl) rfl
                have f78 : v78 = .string ⟨#[58]⟩ := f78
                subst f78
                clear hk hd
                have HR := Lib.hid hR
                clear hR
                go_simp
                rw [if_neg (by omega)]
                go_simp
                exact hK _ _ (Below.refl _ _) rfl
              · intro ra RW hR hk hd K hK
                obtain ⟨e0, g0⟩ := hk 0 (.slice (some ⟨pb, po, none⟩) n c) (by kernel_rfl) rfl
                clear hk hd
                have HR := Lib.hid hR
                clear hR
                go_simp
                exact hK _ _ (Below.refl _ _) rfl
              · intro ra RW hR hk hd K hK
                obtain ⟨e9, g9⟩ := hk 9 (.int .i64 (i : Int)) (by kernel_rfl) rfl
                clear hk hd
                have HR := Lib.hid hR
                clear hR
                go_simp
                exact hK _ _ (Below.refl _ _) rfl
              · intro ra RW hR hk hd K hK
                obtain ⟨v80, e80, g80, f80⟩ := hd 10 80 (by kernel_rfl) rfl
                have f80 : v80 = .slice (some ⟨pb, po, none⟩) n c := f80
                subst f80
                obtain ⟨v81, e81, g81, f81⟩ := hd 11 81 (by kernel_rfl) rfl
                have f81 : v81 = .int .i64 (i : Int) := f81
                subst f81
                clear hk hd
                have HR := Lib.hid hR
                clear hR
                go_simp
                exact hK _ _ (Below.refl _ _) rfl
              · intro ra RW hR hk hd K hK
                obtain ⟨v82, e82, g82, f82⟩ := hd 12 82 (by kernel_rfl) rfl
                have f82 : v82 = .pointer (some ⟨pb, po + i * 4, none⟩) := f82
                subst f82
                clear hk hd
                have HR := Lib.hid hR
                clear hR
                go_simp
                exact hK _ _ (Below.refl _ _) rfl
              · intro ra RW hR hk hd K hK
                obtain ⟨v83, e83, g83, f83⟩ := hd 13 83 (by kernel_rfl) rfl
                have f83 : v83 = .pointer (some ⟨pb, po + i * 4, none⟩) := f83
                subst f83
                clear hk hd
                have HR := Lib.hid hR
                clear hR
                go_simp
                exact hK _ _ (Below.refl _ _) rfl
              · intro ra RW hR hk hd K hK
                obtain ⟨v84, e84, g84, f84⟩ := hd 14 84 (by kernel_rfl) rfl
                have f84 : v84 = .pointer (some ⟨pb, po + i * 4 + 2, none⟩) := f84
                subst f84
                clear hk hd
                have HR := Lib.hid hR
                clear hR
                have dd0 := (HR.out.cell (p := ⟨pb, po + i * 4 + 2, none⟩) hpw).trans z2
                go_simp
                exact hK _ _ (Below.refl _ _) rfl
              · intro ra RW hR hk hd K hK
                obtain ⟨v79, e79, g79, f79⟩ := hd 9 79 (by kernel_rfl) rfl
                have f79 : v79 = .string (NS ++ ⟨#[58]⟩) := f79
                subst f79
                obtain ⟨v85, e85, g85, f85⟩ := hd 15 85 (by kernel_rfl) rfl
                have f85 : v85 = .string TX := f85
                subst f85
                clear hk hd
                have HR := Lib.hid hR
                clear hR
                go_simp
                rw [if_neg (by omega)]
                go_simp
                exact hK _ _ (Below.refl _ _) (by rw [HLV.out]; rfl)
              · intro ra RW hR hk hd K hK
                obtain ⟨v86, e86, g86, f86⟩ := hd 16 86 (by kernel_rfl) rfl
                have f86 : v86 = .string LV := f86
                subst f86
                clear hk hd
                have HR := Lib.hid hR
                clear hR
                go_simp
                exact hK _ _ (below_al (Below.refl _ _) _) (newsRow_mk _ _)
            intro vs RW hR hF
            have q0 : vs 0 = .slice Ao5 ln5 co5 := hF 0 (by decide)
            have q1 : vs 1 = .slice (some ⟨pb, po, none⟩) n c := hF 1 (by decide)
            have q2 : vs 2 = .int .i64 (i : Int) := hF 2 (by decide)
            have q3 : vs 3 = .pointer (some ⟨pb, po + i * 4, none⟩) := hF 3 (by decide)
            have q4 : vs 4 = .pointer (some ⟨pb, po + i * 4, none⟩) := hF 4 (by decide)
            have q5 : vs 5 = .pointer (some ⟨pb, po + i * 4, none⟩) := hF 5 (by decide)
            have q6 : vs 6 = .int .i64 x.r.n := hF 6 (by decide)
            have q7 : vs 7 = .string NS := hF 7 (by decide)
            have q8 : vs 8 = .string ⟨#[58]⟩ := hF 8 (by decide)
            have q9 : vs 9 = .string (NS ++ ⟨#[58]⟩) := hF 9 (by decide)
            have q10 : vs 10 = .slice (some ⟨pb, po, none⟩) n c := hF 10 (by decide)
            have q11 : vs 11 = .int .i64 (i : Int) := hF 11 (by decide)
            have q12 : vs 12 = .pointer (some ⟨pb, po + i * 4, none⟩) := hF 12 (by decide)
            have q13 : vs 13 = .pointer (some ⟨pb, po + i * 4, none⟩) := hF 13 (by decide)
            have q14 : vs 14 = .pointer (some ⟨pb, po + i * 4 + 2, none⟩) := hF 14 (by decide)
            have q15 : vs 15 = .string TX := hF 15 (by decide)
            have q16 : vs 16 = .string LV := hF 16 (by decide)
            have F87 := Lib.hid (hF 17 (by decide))
            simp only [List.take_succ_cons, List.take_zero, List.drop_succ_cons, List.drop_zero, setAll, List.setIfInBounds_toArray, List.set_cons_zero, List.set_cons_succ, q0, q1, q2, q3, q4, q5, q6, q7, q8, q9, q10, q11, q12, q13, q14, q15, q16]
            clear hF q0 q1 q2 q3 q4 q5 q6 q7 q8 q9 q10 q11 q12 q13 q14 q15 q16
            generalize vs 17 = v87 at *
            clear vs

            obtain ⟨g87, rfl, hblk⟩ := F87.out
            have HOW6 := Lib.hid (HOWN5.out.drew.below hR (fun kk hk => HOWN5.out.lt hk))
            have HLI := Lib.hid (own_one hblk).rd
            have HB6 := Lib.hid (HB5.out.trans ((below_drewN (Below.refl w.heap.size w5) 1).trans (hR.mono HB5.out.size)))
            clear F87 hblk hR
            go_wp2_with (at_builtin; go_loud (refine wpList_append_rd _ rfl (.tmp 70) (.tmp 87) _ rfl 9 i0 _ 1 16 Tryd.underlying34 hi0 hz0 hz1 hz2 rfl (by omega) (.slice Ao5 ln5 co5) ln5 (lns L5) rfl (by exact HOW6.out) _ _ 1 1 [.string LV] rfl (by exact HLI.out) (by intro v hv; simp at hv; rcases hv with rfl; rfl) (by simp only [maxLen]; omega) (by omega) _ rfl ?_; intro v7 w7 hown7 hgrow7 hat7))
            have hb7 : Below w.heap.size w w7 := ((Only.of_below HB6.out).grown hgrow7 (fun k hk hlt => HK5.out k hk)).below (Nat.le_refl _) (fun k h => h)
            have hk7 : ∀ k, v7.ownBlock = some k → w.heap.size ≤ k := fun k hk => by
              rcases hat7 with h | h
              · exact HK5.out k (h.symm.trans hk)
              · rw [h] at hk; injection hk with hk; have := HB6.out.size; omega
            have HB7 := Lib.hid hb7
            have HK7 := Lib.hid hk7
            have HOWN7 : Hid (Own w7 9 1 v7 (emitI l t (i + 1)).1.length (lns (emitI l t (i + 1)).1)) := by
              show Own _ _ _ _ _ _
              rw [HE5.out]
              show Own _ _ _ _ (L5 ++ [line x.r 58]).length (lns (L5 ++ [line x.r 58]))
              rw [lns_append, List.length_append, HLN5.out, show lns [line x.r 58] = [.string (mk (line x.r 58))] from rfl, HLVV.out]; exact hown7
            have HL7 : Hid (lastV (emitI l t (i + 1)).2 = (i : Int)) := by show _ = _; rw [HE5.out]; rfl
            clear hb7 hk7 hown7 hgrow7 hat7
            go_roundw
            case rel => exact ⟨i + 1, by go_num, by omega, by rw [HL7.out], HOWN7.out, HK7.out, HB7.out⟩
            case measure => simp [intOf]; omega
        | false =>
          have HSPE : Hid (SP = []) := by show _ = _; rw [hspe, hsp]; rfl
          clear hspe
          rcases Nat.eq_zero_or_pos k with hk0 | hk0
          · subst hk0
            have HHT : Hid (hitAt l i = false) := by show _ = _; rw [HHA.out]; rfl
            go_wp2_with (go_at_call 23; go_loud (refine HH.out.mono ?_; rintro e3 w3 ⟨v3, rfl, hown3, hk3, hb3⟩; obtain ⟨A3, c3, rfl, -, -⟩ := hown3.len_; have HW3 := Lib.hid hb3; have HB3 := Lib.hid (hbw.out.trans (hb3.mono hbw.out.size)); clear hown3 hk3 hb3))
            refine (HNR.out w3 _ _ HB3.out (by omega) (by omega)).mono ?_
            rintro e4 w4 ⟨r1, rfl, hr1, hb4⟩
            have HR1 := Lib.hid hr1
            have HB4 := Lib.hid (HB3.out.trans (hb4.mono HB3.out.size))
            have HW4 := Lib.hid (below_trans HW3.out hb4)
            clear hr1 hb4
            clear HB3 HW3
            have HB3 := HB4
            have HW3 := HW4
            clear HB4 HW4
            cases r1 with
            | true =>
              have DONE : Hid (t i = true) := (HTI.out i).2 (.inr (.inl (by obtain ⟨j, h1, h2, h3⟩ := HR1.out.1 rfl; exact ⟨j, by omega, by omega, h3⟩)))
              go_wp2_with fail
              have hx3 := HX5.out _ HB3.out
              have x0 := hx3.1
              have hem : emit1 l (some kk) i = SP ++ [line x.r 45] := by unfold emit1; rw [HSP.out, HRA.out, HHT.out]; rfl
              have hE5 : emitI l t (i + 1) = (E0 ++ SP ++ [line x.r 45], some i) := by rw [emitI_yes l t i DONE.out, HLA.out, hem, HE0.out, List.append_assoc]
              rw [HSPE.out] at hE5
              have HE5 := Lib.hid hE5
              have hlv : (mk (Lib.itoa x.r.n) ++ ⟨#[45]⟩) ++ mk x.r.t = mk (line x.r 45) := by rw [show (⟨#[45]⟩ : ByteArray) = mk [45] from rfl, mk_append, mk_append]; rfl
              rw [HTX.out] at hlv
              obtain ⟨LV, hLV⟩ : ∃ LV, mk (line x.r 45) = LV := ⟨_, rfl⟩
              rw [hLV] at hlv
              have HLVV := Lib.hid hLV
              have HLV := Lib.hid hlv
              have hns : (mk (Lib.itoa x.r.n)).size ≤ 20 := itoa_len _ HXI.out
              have HD := Lib.hid (fun W => digits_any x.r.n HXI.out W)
              clear hx3 hem hE5 hlv hLV
              generalize mk (Lib.itoa x.r.n) = NS at *
              have y0 := HKK.out _ HB3.out
              go_quiet (fail)
              have HB5 := Lib.hid (HB3.out.trans (below_drewN (Below.refl w.heap.size w4) nq))
              have HOWN5 := Lib.hid (HOUT.out _ (HW3.out.trans (below_drewN (Below.refl wr.heap.size w4) nq)))
              have HK5 := hok
              have HLN5 := HLE
              have hl5 : le ≤ 2 * i + 1 := by omega
              rw [List.append_nil] at HE5
              generalize w4.drewN nq = w55 at *
              go_wp2_with fail
              have hpw : pb < w55.drew.heap.size := by have : w55.drew.heap.size = w55.heap.size := rfl; have := HB5.out.size; have := HBX.out; omega
              have hx5 := HX5.out _ HB5.out
              have z0 := hx5.1
              have z2 := hx5.2
              clear hx5 x0
              refine region_tail 18 (by kernel_rfl) (by kernel_rfl) (fun W W' => Below W.heap.size W W')
                [.val (.slice Ao le co),
                 .val (.slice (some ⟨pb, po, none⟩) n c),
                 .val (.int .i64 (i : Int)),
                 .val (.pointer (some ⟨pb, po + i * 4, none⟩)),
                 .val (.pointer (some ⟨pb, po + i * 4, none⟩)),
                 .val (.pointer (some ⟨pb, po + i * 4, none⟩)),
                 .val (.int .i64 x.r.n),
                 .val (.string NS),
                 .val (.string ⟨#[45]⟩),
                 .val (.string (NS ++ ⟨#[45]⟩)),
                 .val (.slice (some ⟨pb, po, none⟩) n c),
                 .val (.int .i64 (i : Int)),
                 .val (.pointer (some ⟨pb, po + i * 4, none⟩)),
                 .val (.pointer (some ⟨pb, po + i * 4, none⟩)),
                 .val (.pointer (some ⟨pb, po + i * 4 + 2, none⟩)),
                 .val (.string TX),
                 .val (.string LV),
                 newsRow (.string LV)]
                (fun W => Below.refl _ W) (fun _ _ _ h k => below_trans h k) (by kernel_rfl) ?_ ?_
              · refine ⟨?_, ?_, ?_, ?_, ?_, ?_, ?_, ?_, ?_, ?_, ?_, ?_, ?_, ?_, ?_, ?_, ?_, ?_, trivial⟩
                · intro ra RW hR hk hd K hK
                  obtain ⟨e7, g7⟩ := hk 7 (.slice Ao le co) (by kernel_rfl) rfl
                  clear hk hd
                  have HR := Lib.hid hR
                  clear hR
                  go_simp
                  exact hK _ _ (Below.refl _ _) rfl
                · intro ra RW hR hk hd K hK
                  obtain ⟨e0, g0⟩ := hk 0 (.slice (some ⟨pb, po, none⟩) n c) (by kernel_rfl) rfl
                  clear hk hd
                  have HR := Lib.hid hR
                  clear hR
                  go_simp
                  exact hK _ _ (Below.refl _ _) rfl
                · intro ra RW hR hk hd K hK
                  obtain ⟨e9, g9⟩ := hk 9 (.int .i64 (i : Int)) (by kernel_rfl) rfl
                  clear hk hd
                  have HR := Lib.hid hR
                  clear hR
                  go_simp
                  exact hK _ _ (Below.refl _ _) rfl
                · intro ra RW hR hk hd K hK
                  obtain ⟨v71, e71, g71, f71⟩ := hd 1 71 (by kernel_rfl) rfl
                  have f71 : v71 = .slice (some ⟨pb, po, none⟩) n c := f71
                  subst f71
                  obtain ⟨v72, e72, g72, f72⟩ := hd 2 72 (by kernel_rfl) rfl
                  have f72 : v72 = .int .i64 (i : Int) := f72
                  subst f72
                  clear hk hd
                  have HR := Lib.hid hR
                  clear hR
                  go_simp
                  exact hK _ _ (Below.refl _ _) rfl
                · intro ra RW hR hk hd K hK
                  obtain ⟨v73, e73, g73, f73⟩ := hd 3 73 (by kernel_rfl) rfl
                  have f73 : v73 = .pointer (some ⟨pb, po + i * 4, none⟩) := f73
                  subst f73
                  clear hk hd
                  have HR := Lib.hid hR
                  clear hR
                  go_simp
                  exact hK _ _ (Below.refl _ _) rfl
                · intro ra RW hR hk hd K hK
                  obtain ⟨v74, e74, g74, f74⟩ := hd 4 74 (by kernel_rfl) rfl
                  have f74 : v74 = .pointer (some ⟨pb, po + i * 4, none⟩) := f74
                  subst f74
                  clear hk hd
                  have HR := Lib.hid hR
                  clear hR
                  go_simp
                  exact hK _ _ (Below.refl _ _) rfl
                · intro ra RW hR hk hd K hK
                  obtain ⟨v75, e75, g75, f75⟩ := hd 5 75 (by kernel_rfl) rfl
                  have f75 : v75 = .pointer (some ⟨pb, po + i * 4, none⟩) := f75
                  subst f75
                  clear hk hd
                  have HR := Lib.hid hR
                  clear hR
                  have dd0 := (HR.out.cell (p := ⟨pb, po + i * 4, none⟩) hpw).trans z0
                  go_simp
                  exact hK _ _ (Below.refl _ _) rfl
                · intro ra RW hR hk hd K hK
                  obtain ⟨v76, e76, g76, f76⟩ := hd 6 76 (by kernel_rfl) rfl
                  have f76 : v76 = .int .i64 x.r.n := f76
                  subst f76
                  clear hk hd
                  have HR := Lib.hid hR
                  clear hR
                  go_simp
                  refine (HD.out RW).mono ?_
                  rintro e w2 ⟨rfl, hb2⟩
                  exact hK _ _ hb2 rfl
                · intro ra RW hR hk hd K hK
                  obtain ⟨e11, g11⟩ := hk 11 (.string ⟨#[45]⟩) (by kernel_rfl) rfl
                  clear hk hd
                  have HR := Lib.hid hR
                  clear hR
                  go_simp
                  exact hK _ _ (Below.refl _ _) rfl
                · intro ra RW hR hk hd K hK
                  obtain ⟨v77, e77, g77, f77⟩ := hd 7 77 (by kernel_rfl) rfl
                  have f77 : v77 = .string NS := f77
                  subst f77
                  obtain ⟨v78, e78, g78, f78⟩ := hd 8 78 (by kernel_rfl) rfl
                  have f78 : v78 = .string ⟨#[45]⟩ := f78
                  subst f78
                  clear hk hd
                  have HR := Lib.hid hR
                  clear hR
                  go_simp
                  rw [if_neg (by omega)]
                  go_simp
                  exact hK _ _ (Below.refl _ _) rfl
                · intro ra RW hR hk hd K hK
                  obtain ⟨e0, g0⟩ := hk 0 (.slice (some ⟨pb, po, none⟩) n c) (by kernel_rfl) rfl
                  clear hk hd
                  have HR := Lib.hid hR
                  clear hR
                  go_simp
                  exact hK _ _ (Below.refl _ _) rfl
                · intro ra RW hR hk hd K hK
                  obtain ⟨e9, g9⟩ := hk 9 (.int .i64 (i : Int)) (by kernel_rfl) rfl
                  clear hk hd
                  have HR := Lib.hid hR
                  clear hR
                  go_simp
                  exact hK _ _ (Below.refl _ _) rfl
                · intro ra RW hR hk hd K hK
                  obtain ⟨v80, e80, g80, f80⟩ := hd 10 80 (by kernel_rfl) rfl
                  have f80 : v80 = .slice (some ⟨pb, po, none⟩) n c := f80
                  subst f80
                  obtain ⟨v81, e81, g81, f81⟩ := hd 11 81 (by kernel_rfl) rfl
                  have f81 : v81 = .int .i64 (i : Int) := f81
                  subst f81
                  clear hk hd
                  have HR := Lib.hid hR
                  clear hR
                  go_simp
                  exact hK _ _ (Below.refl _ _) rfl
                · intro ra RW hR hk hd K hK
                  obtain ⟨v82, e82, g82, f82⟩ := hd 12 82 (by kernel_rfl) rfl
                  have f82 : v82 = .pointer (some ⟨pb, po + i * 4, none⟩) := f82
                  subst f82
                  clear hk hd
                  have HR := Lib.hid hR
                  clear hR
                  go_simp
                  exact hK _ _ (Below.refl _ _) rfl
                · intro ra RW hR hk hd K hK
                  obtain ⟨v83, e83, g83, f83⟩ := hd 13 83 (by kernel_rfl) rfl
                  have f83 : v83 = .pointer (some ⟨pb, po + i * 4, none⟩) := f83
                  subst f83
                  clear hk hd
                  have HR := Lib.hid hR
                  clear hR
                  go_simp
                  exact hK _ _ (Below.refl _ _) rfl
                · intro ra RW hR hk hd K hK
                  obtain ⟨v84, e84, g84, f84⟩ := hd 14 84 (by kernel_rfl) rfl
                  have f84 : v84 = .pointer (some ⟨pb, po + i * 4 + 2, none⟩) := f84
                  subst f84
                  clear hk hd
                  have HR := Lib.hid hR
                  clear hR
                  have dd0 := (HR.out.cell (p := ⟨pb, po + i * 4 + 2, none⟩) hpw).trans z2
                  go_simp
                  exact hK _ _ (Below.refl _ _) rfl
                · intro ra RW hR hk hd K hK
                  obtain ⟨v79, e79, g79, f79⟩ := hd 9 79 (by kernel_rfl) rfl
                  have f79 : v79 = .string (NS ++ ⟨#[45]⟩) := f79
                  subst f79
                  obtain ⟨v85, e85, g85, f85⟩ := hd 15 85 (by kernel_rfl) rfl
                  have f85 : v85 = .string TX := f85
                  subst f85
                  clear hk hd
                  have HR := Lib.hid hR
                  clear hR
                  go_simp
                  rw [if_neg (by omega)]
                  go_simp
                  exact hK _ _ (Below.refl _ _) (by rw [HLV.out]; rfl)
                · intro ra RW hR hk hd K hK
                  obtain ⟨v86, e86, g86, f86⟩ := hd 16 86 (by kernel_rfl) rfl
                  have f86 : v86 = .string LV := f86
                  subst f86
                  clear hk hd
                  have HR := Lib.hid hR
                  clear hR
                  go_simp
                  exact hK _ _ (below_al (Below.refl _ _) _) (newsRow_mk _ _)
              intro vs RW hR hF
              have q0 : vs 0 = .slice Ao le co := hF 0 (by decide)
              have q1 : vs 1 = .slice (some ⟨pb, po, none⟩) n c := hF 1 (by decide)
              have q2 : vs 2 = .int .i64 (i : Int) := hF 2 (by decide)
              have q3 : vs 3 = .pointer (some ⟨pb, po + i * 4, none⟩) := hF 3 (by decide)
              have q4 : vs 4 = .pointer (some ⟨pb, po + i * 4, none⟩) := hF 4 (by decide)
              have q5 : vs 5 = .pointer (some ⟨pb, po + i * 4, none⟩) := hF 5 (by decide)
              have q6 : vs 6 = .int .i64 x.r.n := hF 6 (by decide)
              have q7 : vs 7 = .string NS := hF 7 (by decide)
              have q8 : vs 8 = .string ⟨#[45]⟩ := hF 8 (by decide)
              have q9 : vs 9 = .string (NS ++ ⟨#[45]⟩) := hF 9 (by decide)
              have q10 : vs 10 = .slice (some ⟨pb, po, none⟩) n c := hF 10 (by decide)
              have q11 : vs 11 = .int .i64 (i : Int) := hF 11 (by decide)
              have q12 : vs 12 = .pointer (some ⟨pb, po + i * 4, none⟩) := hF 12 (by decide)
              have q13 : vs 13 = .pointer (some ⟨pb, po + i * 4, none⟩) := hF 13 (by decide)
              have q14 : vs 14 = .pointer (some ⟨pb, po + i * 4 + 2, none⟩) := hF 14 (by decide)
              have q15 : vs 15 = .string TX := hF 15 (by decide)
              have q16 : vs 16 = .string LV := hF 16 (by decide)
              have F87 := Lib.hid (hF 17 (by decide))
              simp only [List.take_succ_cons, List.take_zero, List.drop_succ_cons, List.drop_zero, setAll, List.setIfInBounds_toArray, List.set_cons_zero, List.set_cons_succ, q0, q1, q2, q3, q4, q5, q6, q7, q8, q9, q10, q11, q12, q13, q14, q15, q16]
              clear hF q0 q1 q2 q3 q4 q5 q6 q7 q8 q9 q10 q11 q12 q13 q14 q15 q16
              generalize vs 17 = v87 at *
              clear vs

              obtain ⟨g87, rfl, hblk⟩ := F87.out
              have HOW6 := Lib.hid (HOWN5.out.drew.below hR (fun kk hk => HOWN5.out.lt hk))
              have HLI := Lib.hid (own_one hblk).rd
              have HB6 := Lib.hid (HB5.out.trans ((below_drewN (Below.refl w.heap.size w55) 1).trans (hR.mono HB5.out.size)))
              clear F87 hblk hR
              go_wp2_with (at_builtin; go_loud (refine wpList_append_rd _ rfl (.tmp 70) (.tmp 87) _ rfl 9 i0 _ 1 16 Tryd.underlying34 hi0 hz0 hz1 hz2 rfl (by omega) (.slice Ao le co) le (lns E0) rfl (by exact HOW6.out) _ _ 1 1 [.string LV] rfl (by exact HLI.out) (by intro v hv; simp at hv; rcases hv with rfl; rfl) (by simp only [maxLen]; omega) (by omega) _ rfl ?_; intro v7 w7 hown7 hgrow7 hat7))
              have hb7 : Below w.heap.size w w7 := ((Only.of_below HB6.out).grown hgrow7 (fun k hk hlt => HK5.out k hk)).below (Nat.le_refl _) (fun k h => h)
              have hk7 : ∀ k, v7.ownBlock = some k → w.heap.size ≤ k := fun k hk => by
                rcases hat7 with h | h
                · exact HK5.out k (h.symm.trans hk)
                · rw [h] at hk; injection hk with hk; have := HB6.out.size; omega
              have HB7 := Lib.hid hb7
              have HK7 := Lib.hid hk7
              have HOWN7 : Hid (Own w7 9 1 v7 (emitI l t (i + 1)).1.length (lns (emitI l t (i + 1)).1)) := by
                show Own _ _ _ _ _ _
                rw [HE5.out]
                show Own _ _ _ _ (E0 ++ [line x.r 45]).length (lns (E0 ++ [line x.r 45]))
                rw [lns_append, List.length_append, HLN5.out, show lns [line x.r 45] = [.string (mk (line x.r 45))] from rfl, HLVV.out]; exact hown7
              have HL7 : Hid (lastV (emitI l t (i + 1)).2 = (i : Int)) := by show _ = _; rw [HE5.out]; rfl
              clear hb7 hk7 hown7 hgrow7 hat7
              go_roundw
              case rel => exact ⟨i + 1, by go_num, by omega, by rw [HL7.out], HOWN7.out, HK7.out, HB7.out⟩
              case measure => simp [intOf]; omega

            | false =>
              go_wp2_with fail
              refine (HNR.out w4 _ _ HB3.out (by omega) (by omega)).mono ?_
              rintro e5 w5 ⟨r2, rfl, hr2, hb5⟩
              have HR2 := Lib.hid hr2
              have HB5 := Lib.hid (HB3.out.trans (hb5.mono HB3.out.size))
              have HW5 := Lib.hid (below_trans HW3.out hb5)
              clear hr2 hb5 HB3 HW3
              have HB3 := HB5
              have HW3 := HW5
              clear HB5 HW5
              cases r2 with
              | true =>
                have DONE : Hid (t i = true) := (HTI.out i).2 (.inr (.inr (by obtain ⟨j, h1, h2, h3⟩ := HR2.out.1 rfl; exact ⟨j, by omega, by omega, h3⟩)))
                go_wp2_with fail
                have hx3 := HX5.out _ HB3.out
                have x0 := hx3.1
                have hem : emit1 l (some kk) i = SP ++ [line x.r 45] := by unfold emit1; rw [HSP.out, HRA.out, HHT.out]; rfl
                have hE5 : emitI l t (i + 1) = (E0 ++ SP ++ [line x.r 45], some i) := by rw [emitI_yes l t i DONE.out, HLA.out, hem, HE0.out, List.append_assoc]
                rw [HSPE.out] at hE5
                have HE5 := Lib.hid hE5
                have hlv : (mk (Lib.itoa x.r.n) ++ ⟨#[45]⟩) ++ mk x.r.t = mk (line x.r 45) := by rw [show (⟨#[45]⟩ : ByteArray) = mk [45] from rfl, mk_append, mk_append]; rfl
                rw [HTX.out] at hlv
                obtain ⟨LV, hLV⟩ : ∃ LV, mk (line x.r 45) = LV := ⟨_, rfl⟩
                rw [hLV] at hlv
                have HLVV := Lib.hid hLV
                have HLV := Lib.hid hlv
                have hns : (mk (Lib.itoa x.r.n)).size ≤ 20 := itoa_len _ HXI.out
                have HD := Lib.hid (fun W => digits_any x.r.n HXI.out W)
                clear hx3 hem hE5 hlv hLV
                generalize mk (Lib.itoa x.r.n) = NS at *
                have y0 := HKK.out _ HB3.out
                go_quiet (fail)
                have HB5 := Lib.hid (HB3.out.trans (below_drewN (Below.refl w.heap.size w5) nq))
                have HOWN5 := Lib.hid (HOUT.out _ (HW3.out.trans (below_drewN (Below.refl wr.heap.size w5) nq)))
                have HK5 := hok
                have HLN5 := HLE
                have hl5 : le ≤ 2 * i + 1 := by omega
                rw [List.append_nil] at HE5
                generalize w5.drewN nq = w55 at *
                go_wp2_with fail
                have hpw : pb < w55.drew.heap.size := by have : w55.drew.heap.size = w55.heap.size := rfl; have := HB5.out.size; have := HBX.out; omega
                have hx5 := HX5.out _ HB5.out
                have z0 := hx5.1
                have z2 := hx5.2
                clear hx5 x0
                refine region_tail 18 (by kernel_rfl) (by kernel_rfl) (fun W W' => Below W.heap.size W W')
                  [.val (.slice Ao le co),
                   .val (.slice (some ⟨pb, po, none⟩) n c),
                   .val (.int .i64 (i : Int)),
                   .val (.pointer (some ⟨pb, po + i * 4, none⟩)),
                   .val (.pointer (some ⟨pb, po + i * 4, none⟩)),
                   .val (.pointer (some ⟨pb, po + i * 4, none⟩)),
                   .val (.int .i64 x.r.n),
                   .val (.string NS),
                   .val (.string ⟨#[45]⟩),
                   .val (.string (NS ++ ⟨#[45]⟩)),
                   .val (.slice (some ⟨pb, po, none⟩) n c),
                   .val (.int .i64 (i : Int)),
                   .val (.pointer (some ⟨pb, po + i * 4, none⟩)),
                   .val (.pointer (some ⟨pb, po + i * 4, none⟩)),
                   .val (.pointer (some ⟨pb, po + i * 4 + 2, none⟩)),
                   .val (.string TX),
                   .val (.string LV),
                   newsRow (.string LV)]
                  (fun W => Below.refl _ W) (fun _ _ _ h k => below_trans h k) (by kernel_rfl) ?_ ?_
                · refine ⟨?_, ?_, ?_, ?_, ?_, ?_, ?_, ?_, ?_, ?_, ?_, ?_, ?_, ?_, ?_, ?_, ?_, ?_, trivial⟩
                  · intro ra RW hR hk hd K hK
                    obtain ⟨e7, g7⟩ := hk 7 (.slice Ao le co) (by kernel_rfl) rfl
                    clear hk hd
                    have HR := Lib.hid hR
                    clear hR
                    go_simp
                    exact hK _ _ (Below.refl _ _) rfl
                  · intro ra RW hR hk hd K hK
                    obtain ⟨e0, g0⟩ := hk 0 (.slice (some ⟨pb, po, none⟩) n c) (by kernel_rfl) rfl
                    clear hk hd
                    have HR := Lib.hid hR
                    clear hR
                    go_simp
                    exact hK _ _ (Below.refl _ _) rfl
                  · intro ra RW hR hk hd K hK
                    obtain ⟨e9, g9⟩ := hk 9 (.int .i64 (i : Int)) (by kernel_rfl) rfl
                    clear hk hd
                    have HR := Lib.hid hR
                    clear hR
                    go_simp
                    exact hK _ _ (Below.refl _ _) rfl
                  · intro ra RW hR hk hd K hK
                    obtain ⟨v71, e71, g71, f71⟩ := hd 1 71 (by kernel_rfl) rfl
                    have f71 : v71 = .slice (some ⟨pb, po, none⟩) n c := f71
                    subst f71
                    obtain ⟨v72, e72, g72, f72⟩ := hd 2 72 (by kernel_rfl) rfl
                    have f72 : v72 = .int .i64 (i : Int) := f72
                    subst f72
                    clear hk hd
                    have HR := Lib.hid hR
                    clear hR
                    go_simp
                    exact hK _ _ (Below.refl _ _) rfl
                  · intro ra RW hR hk hd K hK
                    obtain ⟨v73, e73, g73, f73⟩ := hd 3 73 (by kernel_rfl) rfl
                    have f73 : v73 = .pointer (some ⟨pb, po + i * 4, none⟩) := f73
                    subst f73
                    clear hk hd
                    have HR := Lib.hid hR
                    clear hR
                    go_simp
                    exact hK _ _ (Below.refl _ _) rfl
                  · intro ra RW hR hk hd K hK
                    obtain ⟨v74, e74, g74, f74⟩ := hd 4 74 (by kernel_rfl) rfl
                    have f74 : v74 = .pointer (some ⟨pb, po + i * 4, none⟩) := f74
                    subst f74
                    clear hk hd
                    have HR := Lib.hid hR
                    clear hR
                    go_simp
                    exact hK _ _ (Below.refl _ _) rfl
                  · intro ra RW hR hk hd K hK
                    obtain ⟨v75, e75, g75, f75⟩ := hd 5 75 (by kernel_rfl) rfl
                    have f75 : v75 = .pointer (some ⟨pb, po + i * 4, none⟩) := f75
                    subst f75
                    clear hk hd
                    have HR := Lib.hid hR
                    clear hR
                    have dd0 := (HR.out.cell (p := ⟨pb, po + i * 4, none⟩) hpw).trans z0
                    go_simp
                    exact hK _ _ (Below.refl _ _) rfl
                  · intro ra RW hR hk hd K hK
                    obtain ⟨v76, e76, g76, f76⟩ := hd 6 76 (by kernel_rfl) rfl
                    have f76 : v76 = .int .i64 x.r.n := f76
                    subst f76
                    clear hk hd
                    have HR := Lib.hid hR
                    clear hR
                    go_simp
                    refine (HD.out RW).mono ?_
                    rintro e w2 ⟨rfl, hb2⟩
                    exact hK _ _ hb2 rfl
                  · intro ra RW hR hk hd K hK
                    obtain ⟨e11, g11⟩ := hk 11 (.string ⟨#[45]⟩) (by kernel_rfl) rfl
                    clear hk hd
                    have HR := Lib.hid hR
                    clear hR
                    go_simp
                    exact hK _ _ (Below.refl _ _) rfl
                  · intro ra RW hR hk hd K hK
                    obtain ⟨v77, e77, g77, f77⟩ := hd 7 77 (by kernel_rfl) rfl
                    have f77 : v77 = .string NS := f77
                    subst f77
                    obtain ⟨v78, e78, g78, f78⟩ := hd 8 78 (by kernel_rfl) rfl
                    have f78 : v78 = .string ⟨#[45]⟩ := f78
                    subst f78
                    clear hk hd
                    have HR := Lib.hid hR
                    clear hR
                    go_simp
                    rw [if_neg (by omega)]
                    go_simp
                    exact hK _ _ (Below.refl _ _) rfl
                  · intro ra RW hR hk hd K hK
                    obtain ⟨e0, g0⟩ := hk 0 (.slice (some ⟨pb, po, none⟩) n c) (by kernel_rfl) rfl
                    clear hk hd
                    have HR := Lib.hid hR
                    clear hR
                    go_simp
                    exact hK _ _ (Below.refl _ _) rfl
                  · intro ra RW hR hk hd K hK
                    obtain ⟨e9, g9⟩ := hk 9 (.int .i64 (i : Int)) (by kernel_rfl) rfl
                    clear hk hd
                    have HR := Lib.hid hR
                    clear hR
                    go_simp
                    exact hK _ _ (Below.refl _ _) rfl
                  · intro ra RW hR hk hd K hK
                    obtain ⟨v80, e80, g80, f80⟩ := hd 10 80 (by kernel_rfl) rfl
                    have f80 : v80 = .slice (some ⟨pb, po, none⟩) n c := f80
                    subst f80
                    obtain ⟨v81, e81, g81, f81⟩ := hd 11 81 (by kernel_rfl) rfl
                    have f81 : v81 = .int .i64 (i : Int) := f81
                    subst f81
                    clear hk hd
                    have HR := Lib.hid hR
                    clear hR
                    go_simp
                    exact hK _ _ (Below.refl _ _) rfl
                  · intro ra RW hR hk hd K hK
                    obtain ⟨v82, e82, g82, f82⟩ := hd 12 82 (by kernel_rfl) rfl
                    have f82 : v82 = .pointer (some ⟨pb, po + i * 4, none⟩) := f82
                    subst f82
                    clear hk hd
                    have HR := Lib.hid hR
                    clear hR
                    go_simp
                    exact hK _ _ (Below.refl _ _) rfl
                  · intro ra RW hR hk hd K hK
                    obtain ⟨v83, e83, g83, f83⟩ := hd 13 83 (by kernel_rfl) rfl
                    have f83 : v83 = .pointer (some ⟨pb, po + i * 4, none⟩) := f83
                    subst f83
                    clear hk hd
                    have HR := Lib.hid hR
                    clear hR
                    go_simp
                    exact hK _ _ (Below.refl _ _) rfl
                  · intro ra RW hR hk hd K hK
                    obtain ⟨v84, e84, g84, f84⟩ := hd 14 84 (by kernel_rfl) rfl
                    have f84 : v84 = .pointer (some ⟨pb, po + i * 4 + 2, none⟩) := f84
                    subst f84
                    clear hk hd
                    have HR := Lib.hid hR
                    clear hR
                    have dd0 := (HR.out.cell (p := ⟨pb, po + i * 4 + 2, none⟩) hpw).trans z2
                    go_simp
                    exact hK _ _ (Below.refl _ _) rfl
                  · intro ra RW hR hk hd K hK
                    obtain ⟨v79, e79, g79, f79⟩ := hd 9 79 (by kernel_rfl) rfl
                    have f79 : v79 = .string (NS ++ ⟨#[45]⟩) := f79
                    subst f79
                    obtain ⟨v85, e85, g85, f85⟩ := hd 15 85 (by kernel_rfl) rfl
                    have f85 : v85 = .string TX := f85
                    subst f85
                    clear hk hd
                    have HR := Lib.hid hR
                    clear hR
                    go_simp
                    rw [if_neg (by omega)]
                    go_simp
                    exact hK _ _ (Below.refl _ _) (by rw [HLV.out]; rfl)
                  · intro ra RW hR hk hd K hK
                    obtain ⟨v86, e86, g86, f86⟩ := hd 16 86 (by kernel_rfl) rfl
                    have f86 : v86 = .string LV := f86
                    subst f86
                    clear hk hd
                    have HR := Lib.hid hR
                    clear hR
                    go_simp
                    exact hK _ _ (below_al (Below.refl _ _) _) (newsRow_mk _ _)
                intro vs RW hR hF
                have q0 : vs 0 = .slice Ao le co := hF 0 (by decide)
                have q1 : vs 1 = .slice (some ⟨pb, po, none⟩) n c := hF 1 (by decide)
                have q2 : vs 2 = .int .i64 (i : Int) := hF 2 (by decide)
                have q3 : vs 3 = .pointer (some ⟨pb, po + i * 4, none⟩) := hF 3 (by decide)
                have q4 : vs 4 = .pointer (some ⟨pb, po + i * 4, none⟩) := hF 4 (by decide)
                have q5 : vs 5 = .pointer (some ⟨pb, po + i * 4, none⟩) := hF 5 (by decide)
                have q6 : vs 6 = .int .i64 x.r.n := hF 6 (by decide)
                have q7 : vs 7 = .string NS := hF 7 (by decide)
                have q8 : vs 8 = .string ⟨#[45]⟩ := hF 8 (by decide)
                have q9 : vs 9 = .string (NS ++ ⟨#[45]⟩) := hF 9 (by decide)
                have q10 : vs 10 = .slice (some ⟨pb, po, none⟩) n c := hF 10 (by decide)
                have q11 : vs 11 = .int .i64 (i : Int) := hF 11 (by decide)
                have q12 : vs 12 = .pointer (some ⟨pb, po + i * 4, none⟩) := hF 12 (by decide)
                have q13 : vs 13 = .pointer (some ⟨pb, po + i * 4, none⟩) := hF 13 (by decide)
                have q14 : vs 14 = .pointer (some ⟨pb, po + i * 4 + 2, none⟩) := hF 14 (by decide)
                have q15 : vs 15 = .string TX := hF 15 (by decide)
                have q16 : vs 16 = .string LV := hF 16 (by decide)
                have F87 := Lib.hid (hF 17 (by decide))
                simp only [List.take_succ_cons, List.take_zero, List.drop_succ_cons, List.drop_zero, setAll, List.setIfInBounds_toArray, List.set_cons_zero, List.set_cons_succ, q0, q1, q2, q3, q4, q5, q6, q7, q8, q9, q10, q11, q12, q13, q14, q15, q16]
                clear hF q0 q1 q2 q3 q4 q5 q6 q7 q8 q9 q10 q11 q12 q13 q14 q15 q16
                generalize vs 17 = v87 at *
                clear vs

                obtain ⟨g87, rfl, hblk⟩ := F87.out
                have HOW6 := Lib.hid (HOWN5.out.drew.below hR (fun kk hk => HOWN5.out.lt hk))
                have HLI := Lib.hid (own_one hblk).rd
                have HB6 := Lib.hid (HB5.out.trans ((below_drewN (Below.refl w.heap.size w55) 1).trans (hR.mono HB5.out.size)))
                clear F87 hblk hR
                go_wp2_with (at_builtin; go_loud (refine wpList_append_rd _ rfl (.tmp 70) (.tmp 87) _ rfl 9 i0 _ 1 16 Tryd.underlying34 hi0 hz0 hz1 hz2 rfl (by omega) (.slice Ao le co) le (lns E0) rfl (by exact HOW6.out) _ _ 1 1 [.string LV] rfl (by exact HLI.out) (by intro v hv; simp at hv; rcases hv with rfl; rfl) (by simp only [maxLen]; omega) (by omega) _ rfl ?_; intro v7 w7 hown7 hgrow7 hat7))
                have hb7 : Below w.heap.size w w7 := ((Only.of_below HB6.out).grown hgrow7 (fun k hk hlt => HK5.out k hk)).below (Nat.le_refl _) (fun k h => h)
                have hk7 : ∀ k, v7.ownBlock = some k → w.heap.size ≤ k := fun k hk => by
                  rcases hat7 with h | h
                  · exact HK5.out k (h.symm.trans hk)
                  · rw [h] at hk; injection hk with hk; have := HB6.out.size; omega
                have HB7 := Lib.hid hb7
                have HK7 := Lib.hid hk7
                have HOWN7 : Hid (Own w7 9 1 v7 (emitI l t (i + 1)).1.length (lns (emitI l t (i + 1)).1)) := by
                  show Own _ _ _ _ _ _
                  rw [HE5.out]
                  show Own _ _ _ _ (E0 ++ [line x.r 45]).length (lns (E0 ++ [line x.r 45]))
                  rw [lns_append, List.length_append, HLN5.out, show lns [line x.r 45] = [.string (mk (line x.r 45))] from rfl, HLVV.out]; exact hown7
                have HL7 : Hid (lastV (emitI l t (i + 1)).2 = (i : Int)) := by show _ = _; rw [HE5.out]; rfl
                clear hb7 hk7 hown7 hgrow7 hat7
                go_roundw
                case rel => exact ⟨i + 1, by go_num, by omega, by rw [HL7.out], HOWN7.out, HK7.out, HB7.out⟩
                case measure => simp [intOf]; omega

              | false =>
                have HNO : Hid (t i = false) := by
                  show _ = _
                  cases hti : t i with
                  | false => rfl
                  | true =>
                    rcases (HTI.out i).1 hti with h | ⟨j, h1, h2, h3⟩ | ⟨j, h1, h2, h3⟩
                    · rw [HHT.out] at h; cases h
                    · have := HR1.out.2 ⟨j, by omega, by omega, h3⟩; cases this
                    · have := HR2.out.2 ⟨j, by omega, by omega, h3⟩; cases this
                have HE6 := Lib.hid (emitI_no l t i HNO.out)
                go_wp2_with fail
                go_roundw
                case rel => exact ⟨i + 1, by go_num, by omega, by rw [HE6.out, HLA.out]; rfl, by show Own _ _ _ _ _ _; rw [HE6.out, HE0.out, HLE.out]; exact HOUT.out _ HW3.out, hok.out, HB3.out⟩
                case measure => simp [intOf]; omega
          · have i3 : (0 : Int) < (k : Int) := by omega
            have HHT : Hid (hitAt l i = true) := by show _ = _; rw [HHA.out]; exact decide_eq_true hk0
            have DONE : Hid (t i = true) := (HTI.out i).2 (.inl HHT.out)
            go_wp2_with (go_at_call 23; go_loud (refine HH.out.mono ?_; rintro e3 w3 ⟨v3, rfl, hown3, hk3, hb3⟩; obtain ⟨A3, c3, rfl, -, -⟩ := hown3.len_; have HW3 := Lib.hid hb3; have HB3 := Lib.hid (hbw.out.trans (hb3.mono hbw.out.size)); clear hown3 hk3 hb3))
            have hx3 := HX5.out _ HB3.out
            have x0 := hx3.1
            have hem : emit1 l (some kk) i = SP ++ [line x.r 58] := by unfold emit1; rw [HSP.out, HRA.out, HHT.out]; rfl
            have hE5 : emitI l t (i + 1) = (E0 ++ SP ++ [line x.r 58], some i) := by rw [emitI_yes l t i DONE.out, HLA.out, hem, HE0.out, List.append_assoc]
            rw [HSPE.out] at hE5
            have HE5 := Lib.hid hE5
            have hlv : (mk (Lib.itoa x.r.n) ++ ⟨#[58]⟩) ++ mk x.r.t = mk (line x.r 58) := by rw [show (⟨#[58]⟩ : ByteArray) = mk [58] from rfl, mk_append, mk_append]; rfl
            rw [HTX.out] at hlv
            obtain ⟨LV, hLV⟩ : ∃ LV, mk (line x.r 58) = LV := ⟨_, rfl⟩
            rw [hLV] at hlv
            have HLVV := Lib.hid hLV
            have HLV := Lib.hid hlv
            have hns : (mk (Lib.itoa x.r.n)).size ≤ 20 := itoa_len _ HXI.out
            have HD := Lib.hid (fun W => digits_any x.r.n HXI.out W)
            clear hx3 hem hE5 hlv hLV
            generalize mk (Lib.itoa x.r.n) = NS at *
            have y0 := HKK.out _ HB3.out
            go_quiet (fail)
            have HB5 := Lib.hid (HB3.out.trans (below_drewN (Below.refl w.heap.size w3) nq))
            have HOWN5 := Lib.hid (HOUT.out _ (HW3.out.trans (below_drewN (Below.refl wr.heap.size w3) nq)))
            have HK5 := hok
            have HLN5 := HLE
            have hl5 : le ≤ 2 * i + 1 := by omega
            rw [List.append_nil] at HE5
            generalize w3.drewN nq = w5 at *
            go_wp2_with fail
            have hpw : pb < w5.drew.heap.size := by have : w5.drew.heap.size = w5.heap.size := rfl; have := HB5.out.size; have := HBX.out; omega
            have hx5 := HX5.out _ HB5.out
            have z0 := hx5.1
            have z2 := hx5.2
            clear hx5 x0
            refine region_tail 18 (by kernel_rfl) (by kernel_rfl) (fun W W' => Below W.heap.size W W')
              [.val (.slice Ao le co),
               .val (.slice (some ⟨pb, po, none⟩) n c),
               .val (.int .i64 (i : Int)),
               .val (.pointer (some ⟨pb, po + i * 4, none⟩)),
               .val (.pointer (some ⟨pb, po + i * 4, none⟩)),
               .val (.pointer (some ⟨pb, po + i * 4, none⟩)),
               .val (.int .i64 x.r.n),
               .val (.string NS),
               .val (.string ⟨#[58]⟩),
               .val (.string (NS ++ ⟨#[58]⟩)),
               .val (.slice (some ⟨pb, po, none⟩) n c),
               .val (.int .i64 (i : Int)),
               .val (.pointer (some ⟨pb, po + i * 4, none⟩)),
               .val (.pointer (some ⟨pb, po + i * 4, none⟩)),
               .val (.pointer (some ⟨pb, po + i * 4 + 2, none⟩)),
               .val (.string TX),
               .val (.string LV),
               newsRow (.string LV)]
              (fun W => Below.refl _ W) (fun _ _ _ h k => below_trans h k) (by kernel_rfl) ?_ ?_
            · refine ⟨?_, ?_, ?_, ?_, ?_, ?_, ?_, ?_, ?_, ?_, ?_, ?_, ?_, ?_, ?_, ?_, ?_, ?_, trivial⟩
              · intro ra RW hR hk hd K hK
                obtain ⟨e7, g7⟩ := hk 7 (.slice Ao le co) (by kernel_rfl) rfl
                clear hk hd
                have HR := Lib.hid hR
                clear hR
                go_simp
                exact hK _ _ (Below.refl _ _) rfl
              · intro ra RW hR hk hd K hK
                obtain ⟨e0, g0⟩ := hk 0 (.slice (some ⟨pb, po, none⟩) n c) (by kernel_rfl) rfl
                clear hk hd
                have HR := Lib.hid hR
                clear hR
                go_simp
                exact hK _ _ (Below.refl _ _) rfl
              · intro ra RW hR hk hd K hK
                obtain ⟨e9, g9⟩ := hk 9 (.int .i64 (i : Int)) (by kernel_rfl) rfl
                clear hk hd
                have HR := Lib.hid hR
                clear hR
                go_simp
                exact hK _ _ (Below.refl _ _) rfl
              · intro ra RW hR hk hd K hK
                obtain ⟨v71, e71, g71, f71⟩ := hd 1 71 (by kernel_rfl) rfl
                have f71 : v71 = .slice (some ⟨pb, po, none⟩) n c := f71
                subst f71
                obtain ⟨v72, e72, g72, f72⟩ := hd 2 72 (by kernel_rfl) rfl
                have f72 : v72 = .int .i64 (i : Int) := f72
                subst f72
                clear hk hd
                have HR := Lib.hid hR
                clear hR
                go_simp
                exact hK _ _ (Below.refl _ _) rfl
              · intro ra RW hR hk hd K hK
                obtain ⟨v73, e73, g73, f73⟩ := hd 3 73 (by kernel_rfl) rfl
                have f73 : v73 = .pointer (some ⟨pb, po + i * 4, none⟩) := f73
                subst f73
                clear hk hd
                have HR := Lib.hid hR
                clear hR
                go_simp
                exact hK _ _ (Below.refl _ _) rfl
              · intro ra RW hR hk hd K hK
                obtain ⟨v74, e74, g74, f74⟩ := hd 4 74 (by kernel_rfl) rfl
                have f74 : v74 = .pointer (some ⟨pb, po + i * 4, none⟩) := f74
                subst f74
                clear hk hd
                have HR := Lib.hid hR
                clear hR
                go_simp
                exact hK _ _ (Below.refl _ _) rfl
              · intro ra RW hR hk hd K hK
                obtain ⟨v75, e75, g75, f75⟩ := hd 5 75 (by kernel_rfl) rfl
                have f75 : v75 = .pointer (some ⟨pb, po + i * 4, none⟩) := f75
                subst f75
                clear hk hd
                have HR := Lib.hid hR
                clear hR
                have dd0 := (HR.out.cell (p := ⟨pb, po + i * 4, none⟩) hpw).trans z0
                go_simp
                exact hK _ _ (Below.refl _ _) rfl
              · intro ra RW hR hk hd K hK
                obtain ⟨v76, e76, g76, f76⟩ := hd 6 76 (by kernel_rfl) rfl
                have f76 : v76 = .int .i64 x.r.n := f76
                subst f76
                clear hk hd
                have HR := Lib.hid hR
                clear hR
                go_simp
                refine (HD.out RW).mono ?_
                rintro e w2 ⟨rfl, hb2⟩
                exact hK _ _ hb2 rfl
              · intro ra RW hR hk hd K hK
                obtain ⟨e11, g11⟩ := hk 11 (.string ⟨#[58]⟩) (by kernel_rfl) rfl
                clear hk hd
                have HR := Lib.hid hR
                clear hR
                go_simp
                exact hK _ _ (Below.refl _ _) rfl
              · intro ra RW hR hk hd K hK
                obtain ⟨v77, e77, g77, f77⟩ := hd 7 77 (by kernel_rfl) rfl
                have f77 : v77 = .string NS := f77
                subst f77
                obtain ⟨v78, e78, g78, f78⟩ := hd 8 78 (by kernel_rfl) rfl
                have f78 : v78 = .string ⟨#[58]⟩ := f78
                subst f78
                clear hk hd
                have HR := Lib.hid hR
                clear hR
                go_simp
                rw [if_neg (by omega)]
                go_simp
                exact hK _ _ (Below.refl _ _) rfl
              · intro ra RW hR hk hd K hK
                obtain ⟨e0, g0⟩ := hk 0 (.slice (some ⟨pb, po, none⟩) n c) (by kernel_rfl) rfl
                clear hk hd
                have HR := Lib.hid hR
                clear hR
                go_simp
                exact hK _ _ (Below.refl _ _) rfl
              · intro ra RW hR hk hd K hK
                obtain ⟨e9, g9⟩ := hk 9 (.int .i64 (i : Int)) (by kernel_rfl) rfl
                clear hk hd
                have HR := Lib.hid hR
                clear hR
                go_simp
                exact hK _ _ (Below.refl _ _) rfl
              · intro ra RW hR hk hd K hK
                obtain ⟨v80, e80, g80, f80⟩ := hd 10 80 (by kernel_rfl) rfl
                have f80 : v80 = .slice (some ⟨pb, po, none⟩) n c := f80
                subst f80
                obtain ⟨v81, e81, g81, f81⟩ := hd 11 81 (by kernel_rfl) rfl
                have f81 : v81 = .int .i64 (i : Int) := f81
                subst f81
                clear hk hd
                have HR := Lib.hid hR
                clear hR
                go_simp
                exact hK _ _ (Below.refl _ _) rfl
              · intro ra RW hR hk hd K hK
                obtain ⟨v82, e82, g82, f82⟩ := hd 12 82 (by kernel_rfl) rfl
                have f82 : v82 = .pointer (some ⟨pb, po + i * 4, none⟩) := f82
                subst f82
                clear hk hd
                have HR := Lib.hid hR
                clear hR
                go_simp
                exact hK _ _ (Below.refl _ _) rfl
              · intro ra RW hR hk hd K hK
                obtain ⟨v83, e83, g83, f83⟩ := hd 13 83 (by kernel_rfl) rfl
                have f83 : v83 = .pointer (some ⟨pb, po + i * 4, none⟩) := f83
                subst f83
                clear hk hd
                have HR := Lib.hid hR
                clear hR
                go_simp
                exact hK _ _ (Below.refl _ _) rfl
              · intro ra RW hR hk hd K hK
                obtain ⟨v84, e84, g84, f84⟩ := hd 14 84 (by kernel_rfl) rfl
                have f84 : v84 = .pointer (some ⟨pb, po + i * 4 + 2, none⟩) := f84
                subst f84
                clear hk hd
                have HR := Lib.hid hR
                clear hR
                have dd0 := (HR.out.cell (p := ⟨pb, po + i * 4 + 2, none⟩) hpw).trans z2
                go_simp
                exact hK _ _ (Below.refl _ _) rfl
              · intro ra RW hR hk hd K hK
                obtain ⟨v79, e79, g79, f79⟩ := hd 9 79 (by kernel_rfl) rfl
                have f79 : v79 = .string (NS ++ ⟨#[58]⟩) := f79
                subst f79
                obtain ⟨v85, e85, g85, f85⟩ := hd 15 85 (by kernel_rfl) rfl
                have f85 : v85 = .string TX := f85
                subst f85
                clear hk hd
                have HR := Lib.hid hR
                clear hR
                go_simp
                rw [if_neg (by omega)]
                go_simp
                exact hK _ _ (Below.refl _ _) (by rw [HLV.out]; rfl)
              · intro ra RW hR hk hd K hK
                obtain ⟨v86, e86, g86, f86⟩ := hd 16 86 (by kernel_rfl) rfl
                have f86 : v86 = .string LV := f86
                subst f86
                clear hk hd
                have HR := Lib.hid hR
                clear hR
                go_simp
                exact hK _ _ (below_al (Below.refl _ _) _) (newsRow_mk _ _)
            intro vs RW hR hF
            have q0 : vs 0 = .slice Ao le co := hF 0 (by decide)
            have q1 : vs 1 = .slice (some ⟨pb, po, none⟩) n c := hF 1 (by decide)
            have q2 : vs 2 = .int .i64 (i : Int) := hF 2 (by decide)
            have q3 : vs 3 = .pointer (some ⟨pb, po + i * 4, none⟩) := hF 3 (by decide)
            have q4 : vs 4 = .pointer (some ⟨pb, po + i * 4, none⟩) := hF 4 (by decide)
            have q5 : vs 5 = .pointer (some ⟨pb, po + i * 4, none⟩) := hF 5 (by decide)
            have q6 : vs 6 = .int .i64 x.r.n := hF 6 (by decide)
            have q7 : vs 7 = .string NS := hF 7 (by decide)
            have q8 : vs 8 = .string ⟨#[58]⟩ := hF 8 (by decide)
            have q9 : vs 9 = .string (NS ++ ⟨#[58]⟩) := hF 9 (by decide)
            have q10 : vs 10 = .slice (some ⟨pb, po, none⟩) n c := hF 10 (by decide)
            have q11 : vs 11 = .int .i64 (i : Int) := hF 11 (by decide)
            have q12 : vs 12 = .pointer (some ⟨pb, po + i * 4, none⟩) := hF 12 (by decide)
            have q13 : vs 13 = .pointer (some ⟨pb, po + i * 4, none⟩) := hF 13 (by decide)
            have q14 : vs 14 = .pointer (some ⟨pb, po + i * 4 + 2, none⟩) := hF 14 (by decide)
            have q15 : vs 15 = .string TX := hF 15 (by decide)
            have q16 : vs 16 = .string LV := hF 16 (by decide)
            have F87 := Lib.hid (hF 17 (by decide))
            simp only [List.take_succ_cons, List.take_zero, List.drop_succ_cons, List.drop_zero, setAll, List.setIfInBounds_toArray, List.set_cons_zero, List.set_cons_succ, q0, q1, q2, q3, q4, q5, q6, q7, q8, q9, q10, q11, q12, q13, q14, q15, q16]
            clear hF q0 q1 q2 q3 q4 q5 q6 q7 q8 q9 q10 q11 q12 q13 q14 q15 q16
            generalize vs 17 = v87 at *
            clear vs

            obtain ⟨g87, rfl, hblk⟩ := F87.out
            have HOW6 := Lib.hid (HOWN5.out.drew.below hR (fun kk hk => HOWN5.out.lt hk))
            have HLI := Lib.hid (own_one hblk).rd
            have HB6 := Lib.hid (HB5.out.trans ((below_drewN (Below.refl w.heap.size w5) 1).trans (hR.mono HB5.out.size)))
            clear F87 hblk hR
            go_wp2_with (at_builtin; go_loud (refine wpList_append_rd _ rfl (.tmp 70) (.tmp 87) _ rfl 9 i0 _ 1 16 Tryd.underlying34 hi0 hz0 hz1 hz2 rfl (by omega) (.slice Ao le co) le (lns E0) rfl (by exact HOW6.out) _ _ 1 1 [.string LV] rfl (by exact HLI.out) (by intro v hv; simp at hv; rcases hv with rfl; rfl) (by simp only [maxLen]; omega) (by omega) _ rfl ?_; intro v7 w7 hown7 hgrow7 hat7))
            have hb7 : Below w.heap.size w w7 := ((Only.of_below HB6.out).grown hgrow7 (fun k hk hlt => HK5.out k hk)).below (Nat.le_refl _) (fun k h => h)
            have hk7 : ∀ k, v7.ownBlock = some k → w.heap.size ≤ k := fun k hk => by
              rcases hat7 with h | h
              · exact HK5.out k (h.symm.trans hk)
              · rw [h] at hk; injection hk with hk; have := HB6.out.size; omega
            have HB7 := Lib.hid hb7
            have HK7 := Lib.hid hk7
            have HOWN7 : Hid (Own w7 9 1 v7 (emitI l t (i + 1)).1.length (lns (emitI l t (i + 1)).1)) := by
              show Own _ _ _ _ _ _
              rw [HE5.out]
              show Own _ _ _ _ (E0 ++ [line x.r 58]).length (lns (E0 ++ [line x.r 58]))
              rw [lns_append, List.length_append, HLN5.out, show lns [line x.r 58] = [.string (mk (line x.r 58))] from rfl, HLVV.out]; exact hown7
            have HL7 : Hid (lastV (emitI l t (i + 1)).2 = (i : Int)) := by show _ = _; rw [HE5.out]; rfl
            clear hb7 hk7 hown7 hgrow7 hat7
            go_roundw
            case rel => exact ⟨i + 1, by go_num, by omega, by rw [HL7.out], HOWN7.out, HK7.out, HB7.out⟩
            case measure => simp [intOf]; omega
    · obtain rfl : i = n := by omega
      go_wp2_with fail
      go_ret
      refine ⟨_, rfl, ?_, hok.out, hbw.out⟩
      rw [HE0.out, HLE.out]
      exact hown.out
end Go.Proofs.YtbgmdjceecbbhaaDoor
