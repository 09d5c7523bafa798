/-
  The law LoomPicks of reedbedlaw20 returns true; no condition beyond those that each theorem states.
-/
import Derived.Test.YtamgngmbbbegpaaLoom10
namespace Go.Proofs.Ytamgngmbbbegpaa
open Go.RowKit Go.Rb
attribute [local irreducible] Go.wpQuiet

theorem ints_same (A B : Option Addr) (n cA cB : Nat) (xs : List Int) (w : World) (b1 b2 : Nat) (hx : Rd w b1 1 A n (xs.map iV)) (hy : Rd w b2 1 B n (xs.map iV)) (hn : n ≤ 1000000) :
    Calls Try.prog 12 #[.slice A n cA, .slice B n cB] w fun e w' => e = .returned (.bool true) ∧ ∃ q, w' = w.drewN q :=
  (ints_any A B n n cA cB xs xs w b1 b2 hx hy hn hn).mono fun e w' h => by simpa using h

set_option maxRecDepth 20000 in
set_option maxHeartbeats 8000000 in
theorem picks_small (js : List Jb) (J : Option Addr) (n cj : Nat) (ps : List Int) (P : Option Addr) (np cp : Nat) (k : Int) (w : World) (hJ : Rd w w.heap.size 3 J n (flat3 (jrow js) n)) (hl : js.length = n) (hc : n ≤ cj)
    (hP : Rd w w.heap.size 1 P np (ps.map iV)) (hcp : np ≤ cp) (hs : smallP js) (hnp : np ≤ 60) (hk1 : -1000 ≤ k) (hk2 : k ≤ 1000) :
    Calls Try.prog 3 #[.slice J n cj, .slice P np cp, .int .i64 k] w fun e w' => e = .returned (.bool true) ∧ Below w.heap.size w w' := by
  have hn : n ≤ 10 := by have := hs.1; omega
  have HJ := Lib.hid hJ
  have HP := Lib.hid hP
  have HS := Lib.hid hs
  have HSM := Lib.hid (fun W B h => small_any W B J n cj js h hl hc)
  have HMD := Lib.hid (fun W B h hB => made_any W B J n cj js h hl hc hB (by omega))
  have HJL := Lib.hid hl
  have hpl : ps.length = np := by simpa using hP.1
  have HPL := Lib.hid hpl
  have i1 : ¬ (60 : Int) < (np : Int) := by omega
  have i2 : ¬ (1000 : Int) < k := by omega
  have i3 : ¬ k < (-1000 : Int) := by omega
  clear hJ hP hs hl hpl
  go_enter Try.func3, Try.ntmps3
  go_wp2_with fail
  refine (awake_any _).mono ?_
  rintro e1 w1 ⟨rfl, hb1⟩
  have HB1 := Lib.hid hb1
  clear hb1
  go_wp2_with fail
  refine (HSM.out w1 w.heap.size (HJ.out.below HB1.out)).mono ?_
  rw [decide_eq_true HS.out]
  rintro e2 w2 ⟨rfl, rfl⟩
  go_wp2_with fail
  refine (HMD.out _ w.heap.size (HJ.out.below HB1.out) HB1.out.size).mono ?_
  rintro e3 w3 ⟨lpa, spa, Sa, La0, tva, lva, tna0, tba, rfl, ha, hSa, hLa, hb3⟩
  have HB3 := Lib.hid (below_trans HB1.out hb3)
  have HA0 := Lib.hid ha
  clear ha hSa hLa hb3
  unfold pp
  go_wp2_with fail
  refine (HMD.out _ w.heap.size (HJ.out.below HB3.out) HB3.out.size).mono ?_
  rintro e4 w4 ⟨lpb, spb, Sb, Lb0, tvb, lvb, tnb0, tbb, rfl, hb, hSb, hLb, hb4⟩
  have HA1 := Lib.hid (HA0.out.below hb4)
  have HB4 := Lib.hid (below_trans HB3.out hb4)
  have HD0 : Hid (∀ q, (Sa q ∨ La0 q) → ¬ (Sb q ∨ Lb0 q)) := fun q h h' => by
    have h1 : q < w3.heap.size := h.elim (HA0.out.sa.lt q) (HA0.out.lt q)
    have h2 : w3.heap.size ≤ q := h'.elim (hSb q) (hLb q)
    omega
  have HE0 := Lib.hid hb
  clear hb hSb hLb hb4
  unfold pp
  go_wp2_with fail
  go_loopw [11] (fun iv wr => ∃ (i : Nat) (La Lb : Nat → Prop) (tna tnb : Value) (tk : List Int) (tn : List Nat), i ≤ np ∧ iv = .int .i64 i ∧ Hid (Tk n tk i) ∧ Hid (tn.length ≤ i) ∧
    LmA wr w.heap.size Sa La lpa spa J n cj tva lva tna tba n js tk tn ∧ LmA wr w.heap.size Sb Lb lpb spb J n cj tvb lvb tnb tbb n js tk tn ∧ Hid (∀ q, (Sa q ∨ La q) → ¬ (Sb q ∨ Lb q)) ∧ Below w.heap.size w wr) (fun iv _ => np - (intOf iv).toNat)
  case atStart => exact ⟨0, _, _, _, _, _, [], by omega, rfl, tk_zero n, Nat.le_refl 0, HA1.out, HE0.out, HD0.out, HB4.out⟩
  case round =>
    obtain ⟨i, La, Lb, tna, tnb, tk, tn, hi, rfl, hTk, htn, ha, hb, hD, hbw⟩ := hrel
    have HA := Lib.hid ha
    have HE := Lib.hid hb
    have HB := Lib.hid hbw
    clear ha hb hbw HA1 HE0 HA0 HD0
    by_cases hlt : i < np
    · have j1 : (i : Int) < (np : Int) := by omega
      obtain ⟨pb, po, rfl, -, hcell⟩ := (HP.out.below HB.out).2 (by omega)
      have x0 := hcell i (by omega)
      rw [List.getElem?_map, List.getElem?_eq_getElem (by rw [HPL.out]; exact hlt)] at x0
      generalize ps[i]'(by rw [HPL.out]; exact hlt) = x at x0
      have x1 : wr.cell? ⟨pb, po + i, none⟩ = some (.int .i64 x) := x0
      have HSm : Hid (Sm js tk) := tk_sm HS.out HJL.out hTk.out (by omega)
      have htl : tn.length ≤ 100000 := by have := htn.out; omega
      have hpb := rem_bd x 1000 (by omega)
      obtain ⟨p, hp⟩ : ∃ p, x.tmod 1000 = p := ⟨_, rfl⟩
      have hpb2 : -(1000 : Int) < p ∧ p < (1000 : Int) := by rw [← hp]; exact hpb
      have hll := listP_len js tk n
      have HRD := Lib.hid (lReady_any HA.out HSm.out (by omega))
      have hps := pick_same js tk n p k
      have hmb := mul_bd k (listP js tk n).length hk1 hk2 (by omega)
      generalize (listP js tk n).length = l at *
      obtain ⟨z, hz⟩ : ∃ z, k * (l : Int) = z := ⟨_, rfl⟩
      rw [hz] at hps hmb
      obtain ⟨y, hy⟩ : ∃ y, p + z = y := ⟨_, rfl⟩
      rw [hy] at hps
      have HPS := Lib.hid hps
      have HTK := Lib.hid (tk_next hTk.out (pickO js tk n p))
      have HTN := Lib.hid (tn_next htn.out (pickO js tk n p))
      obtain ⟨o, ho⟩ : ∃ o, pickO js tk n p = o := ⟨_, rfl⟩
      have HO := Lib.hid ho
      rw [ho] at HTK HTN
      clear hcell x0 hps ho hpb
      unfold pp at HRD
      go_wp2_with fail
      refine HRD.out.mono ?_
      rintro e5 w5 ⟨v5, rfl, hv5, hb5, -⟩
      obtain ⟨A5, c5, rfl, -, -⟩ := hv5.len_
      have HA5 := Lib.hid (HA.out.below hb5)
      have HE5 := Lib.hid (HE.out.below hb5)
      have HB5 := Lib.hid (below_trans HB.out hb5)
      have HST := Lib.hid (lStep_any HA5.out HSm.out (by omega) htl p)
      rw [HO.out] at HST
      clear hv5 hb5
      unfold pp at HST
      go_wp2_with fail
      refine HST.out.mono ?_
      rintro e6 w6 ⟨rfl, La6, tna6, ha6, hL6, hO6⟩
      have HE6 : Hid (LmA w6 w.heap.size Sb Lb lpb spb J n cj tvb lvb tnb tbb n js tk tn) := HE5.out.frame hO6 (fun q hq hh => hD.out q hh (.inl hq)) (fun q hq hh => hD.out q hh (.inr hq)) (fun q hq hh => by
        rcases hh with hh | hh
        · have := HA5.out.sa.sB q hh; omega
        · have := HA5.out.lB q hh; omega)
      have HB6 : Hid (Below w.heap.size w w6) := HB5.out.trans (hO6.below HB5.out.size (fun q hh => hh.elim (HA5.out.sa.sB q) (HA5.out.lB q)))
      have HD6 : Hid (∀ q, (Sa q ∨ La6 q) → ¬ (Sb q ∨ Lb q)) := fun q h h' => by
        rcases h with h | h
        · exact hD.out q (.inl h) h'
        · rcases hL6 q h with h | h
          · exact hD.out q (.inr h) h'
          · have : q < w5.heap.size := h'.elim (HE5.out.sa.lt q) (HE5.out.lt q)
            omega
      have HA6 := Lib.hid ha6
      have HSU := Lib.hid (lStep_any HE6.out HSm.out (by omega) htl y)
      rw [HPS.out, HO.out] at HSU
      clear ha6 hL6 hO6
      unfold pp at HSU
      rcases o with _ | u
      · unfold stepV at HSU
        unfold stepV
        go_wp2_with fail
        refine HSU.out.mono ?_
        rintro e7 w7 ⟨rfl, Lb7, tnb7, hb7, hL7, hO7⟩
        have HA7 : Hid (LmA w7 w.heap.size Sa La6 lpa spa J n cj tva lva tna6 tba n js (incO tk none) (tnO tn none)) := HA6.out.frame hO7 (fun q hq hh => HD6.out q (.inl hq) hh) (fun q hq hh => HD6.out q (.inr hq) hh) (fun q hq hh => by
          rcases hh with hh | hh
          · have := HE6.out.sa.sB q hh; omega
          · have := HE6.out.lB q hh; omega)
        have HB7 : Hid (Below w.heap.size w w7) := HB6.out.trans (hO7.below HB6.out.size (fun q hh => hh.elim (HE6.out.sa.sB q) (HE6.out.lB q)))
        have HD7 : Hid (∀ q, (Sa q ∨ La6 q) → ¬ (Sb q ∨ Lb7 q)) := fun q h h' => by
          rcases h' with h' | h'
          · exact HD6.out q h (.inl h')
          · rcases hL7 q h' with h' | h'
            · exact HD6.out q h (.inr h')
            · have : q < w6.heap.size := h.elim (HA6.out.sa.lt q) (HA6.out.lt q)
              omega
        have HE7 := Lib.hid hb7
        clear hb7 hL7 hO7
        go_wp2_with fail
        go_roundw
        case rel => exact ⟨i + 1, La6, Lb7, tna6, tnb7, _, _, by omega, by go_num, HTK, HTN, HA7.out, HE7.out, HD7, HB7.out⟩
        case measure => simp [intOf]; omega
      · unfold stepV at HSU
        unfold stepV
        go_wp2_with fail
        refine HSU.out.mono ?_
        rintro e7 w7 ⟨rfl, Lb7, tnb7, hb7, hL7, hO7⟩
        have HA7 : Hid (LmA w7 w.heap.size Sa La6 lpa spa J n cj tva lva tna6 tba n js (incO tk (some u)) (tnO tn (some u))) := HA6.out.frame hO7 (fun q hq hh => HD6.out q (.inl hq) hh) (fun q hq hh => HD6.out q (.inr hq) hh) (fun q hq hh => by
          rcases hh with hh | hh
          · have := HE6.out.sa.sB q hh; omega
          · have := HE6.out.lB q hh; omega)
        have HB7 : Hid (Below w.heap.size w w7) := HB6.out.trans (hO7.below HB6.out.size (fun q hh => hh.elim (HE6.out.sa.sB q) (HE6.out.lB q)))
        have HD7 : Hid (∀ q, (Sa q ∨ La6 q) → ¬ (Sb q ∨ Lb7 q)) := fun q h h' => by
          rcases h' with h' | h'
          · exact HD6.out q h (.inl h')
          · rcases hL7 q h' with h' | h'
            · exact HD6.out q h (.inr h')
            · have : q < w6.heap.size := h.elim (HA6.out.sa.lt q) (HA6.out.lt q)
              omega
        have HE7 := Lib.hid hb7
        clear hb7 hL7 hO7
        go_wp2_with fail
        go_roundw
        case rel => exact ⟨i + 1, La6, Lb7, tna6, tnb7, _, _, by omega, by go_num, HTK, HTN, HA7.out, HE7.out, HD7, HB7.out⟩
        case measure => simp [intOf]; omega
    · obtain rfl : i = np := by omega
      obtain ⟨Ga, ca, rfl, -, -⟩ := HA.out.sa.ok.len_
      obtain ⟨Gb, cb, rfl, -, -⟩ := HE.out.sa.ok.len_
      have hCa : Hid (∀ W, Below wr.drew.heap.size wr.drew W → W.cell? ⟨spa, 1, none⟩ = some (.slice Ga n ca)) := fun W hW => (HA.out.below ((Below.refl _ wr).drew.trans hW)).sa.c1
      have hCb : Hid (∀ W, Below wr.drew.heap.size wr.drew W → W.cell? ⟨spb, 1, none⟩ = some (.slice Gb n cb)) := fun W hW => (HE.out.below ((Below.refl _ wr).drew.trans hW)).sa.c1
      have hI : Hid (∀ W, Below wr.drew.heap.size wr.drew W → Calls Try.prog 12 #[.slice Ga n ca, .slice Gb n cb] W fun e w' => e = .returned (.bool true) ∧ ∃ q, w' = W.drewN q) := fun W hW =>
        ints_same Ga Gb n ca cb tk W _ _ (HA.out.below ((Below.refl _ wr).drew.trans hW)).sa.ok.rd (HE.out.below ((Below.refl _ wr).drew.trans hW)).sa.ok.rd (by omega)
      have htl : tn.length ≤ 100000 := by have := htn.out; omega
      have hTa : Hid (∀ W, Below wr.drew.heap.size wr.drew W → Calls Try.prog 13 #[.pointer (some ⟨lpa, 0, none⟩)] W fun e w' => ∃ v, e = .returned v ∧ Own w' 3 1 v tn.length ((nI tn).map iV) ∧ Below W.heap.size W w' ∧ ∀ k, v.ownBlock = some k → W.heap.size ≤ k) := fun W hW => lTurns_any (HA.out.below ((Below.refl _ wr).drew.trans hW)) htl
      have hTb : Hid (∀ W, Below wr.drew.heap.size wr.drew W → Calls Try.prog 13 #[.pointer (some ⟨lpb, 0, none⟩)] W fun e w' => ∃ v, e = .returned v ∧ Own w' 3 1 v tn.length ((nI tn).map iV) ∧ Below W.heap.size W w' ∧ ∀ k, v.ownBlock = some k → W.heap.size ≤ k) := fun W hW => lTurns_any (HE.out.below ((Below.refl _ wr).drew.trans hW)) htl
      generalize hzs : (nI tn).map iV = zs at *
      have HZ : Hid ((nI tn).map iV = zs) := hzs
      generalize nI tn = zi at *
      generalize tn.length = tnl at *
      clear hzs
      go_wp2_with fail
      refine region_rows (by kernel_rfl) (fun W W' => Below W.heap.size W W')
        [.val (.pointer (some ⟨spa, 0, none⟩)),
         .val (.pointer (some ⟨spa, 0, none⟩)),
         .val (.pointer (some ⟨spa, 1, none⟩)),
         .val (.slice Ga n ca),
         .val (.pointer (some ⟨spb, 0, none⟩)),
         .val (.pointer (some ⟨spb, 0, none⟩)),
         .val (.pointer (some ⟨spb, 1, none⟩)),
         .val (.slice Gb n cb),
         .val (.bool true),
         .val (.bool true),
         .val (.pointer (some ⟨lpa, 0, none⟩)),
         ⟨fun v W => Own W 3 1 v tnl zs, fun _ _ _ h hR => h.below hR fun _ hk => h.lt hk⟩,
         .val (.pointer (some ⟨lpb, 0, none⟩)),
         ⟨fun v W => Own W 3 1 v tnl zs, fun _ _ _ h hR => h.below hR fun _ hk => h.lt hk⟩,
         .val (.bool true),
         .val (.bool true),
         .val (.bool true)]
        (fun W => Below.refl _ W) (fun _ _ _ h k => below_trans h k) (by kernel_rfl) ?_ ?_
      · refine ⟨?_, ?_, ?_, ?_, ?_, ?_, ?_, ?_, ?_, ?_, ?_, ?_, ?_, ?_, ?_, ?_, ?_, trivial⟩
        · intro ra RW hR hk hd K hK
          have y0 := hCa.out RW hR
          have y1 := hCb.out RW hR
          obtain ⟨e8, g8⟩ := hk 8 (.pointer (some ⟨spa, 0, none⟩)) (by kernel_rfl) rfl
          clear hk hd
          have HR := Lib.hid hR
          clear hR
          go_simp
          exact hK _ _ (Below.refl _ _) rfl
        · intro ra RW hR hk hd K hK
          have y0 := hCa.out RW hR
          have y1 := hCb.out RW hR
          obtain ⟨v93, e93, g93, f93⟩ := hd 0 93 (by kernel_rfl) rfl
          have f93 : v93 = .pointer (some ⟨spa, 0, none⟩) := f93
          subst f93
          clear hk hd
          have HR := Lib.hid hR
          clear hR
          go_simp
          exact hK _ _ (Below.refl _ _) rfl
        · intro ra RW hR hk hd K hK
          have y0 := hCa.out RW hR
          have y1 := hCb.out RW hR
          obtain ⟨v94, e94, g94, f94⟩ := hd 1 94 (by kernel_rfl) rfl
          have f94 : v94 = .pointer (some ⟨spa, 0, none⟩) := f94
          subst f94
          clear hk hd
          have HR := Lib.hid hR
          clear hR
          go_simp
          exact hK _ _ (Below.refl _ _) rfl
        · intro ra RW hR hk hd K hK
          have y0 := hCa.out RW hR
          have y1 := hCb.out RW hR
          obtain ⟨v95, e95, g95, f95⟩ := hd 2 95 (by kernel_rfl) rfl
          have f95 : v95 = .pointer (some ⟨spa, 1, none⟩) := f95
          subst f95
          clear hk hd
          have HR := Lib.hid hR
          clear hR
          go_simp
          exact hK _ _ (Below.refl _ _) rfl
        · intro ra RW hR hk hd K hK
          have y0 := hCa.out RW hR
          have y1 := hCb.out RW hR
          obtain ⟨e10, g10⟩ := hk 10 (.pointer (some ⟨spb, 0, none⟩)) (by kernel_rfl) rfl
          clear hk hd
          have HR := Lib.hid hR
          clear hR
          go_simp
          exact hK _ _ (Below.refl _ _) rfl
        · intro ra RW hR hk hd K hK
          have y0 := hCa.out RW hR
          have y1 := hCb.out RW hR
          obtain ⟨v97, e97, g97, f97⟩ := hd 4 97 (by kernel_rfl) rfl
          have f97 : v97 = .pointer (some ⟨spb, 0, none⟩) := f97
          subst f97
          clear hk hd
          have HR := Lib.hid hR
          clear hR
          go_simp
          exact hK _ _ (Below.refl _ _) rfl
        · intro ra RW hR hk hd K hK
          have y0 := hCa.out RW hR
          have y1 := hCb.out RW hR
          obtain ⟨v98, e98, g98, f98⟩ := hd 5 98 (by kernel_rfl) rfl
          have f98 : v98 = .pointer (some ⟨spb, 0, none⟩) := f98
          subst f98
          clear hk hd
          have HR := Lib.hid hR
          clear hR
          go_simp
          exact hK _ _ (Below.refl _ _) rfl
        · intro ra RW hR hk hd K hK
          have y0 := hCa.out RW hR
          have y1 := hCb.out RW hR
          obtain ⟨v99, e99, g99, f99⟩ := hd 6 99 (by kernel_rfl) rfl
          have f99 : v99 = .pointer (some ⟨spb, 1, none⟩) := f99
          subst f99
          clear hk hd
          have HR := Lib.hid hR
          clear hR
          go_simp
          exact hK _ _ (Below.refl _ _) rfl
        · intro ra RW hR hk hd K hK
          have y0 := hCa.out RW hR
          have y1 := hCb.out RW hR
          obtain ⟨v96, e96, g96, f96⟩ := hd 3 96 (by kernel_rfl) rfl
          have f96 : v96 = .slice Ga n ca := f96
          subst f96
          obtain ⟨v100, e100, g100, f100⟩ := hd 7 100 (by kernel_rfl) rfl
          have f100 : v100 = .slice Gb n cb := f100
          subst f100
          clear hk hd
          have HR := Lib.hid hR
          clear hR
          go_simp
          refine (hI.out _ HR.out).mono ?_
          rintro e w2 ⟨rfl, q, rfl⟩
          exact hK _ _ (below_drewN (Below.refl _ _) q) rfl
        · intro ra RW hR hk hd K hK
          have y0 := hCa.out RW hR
          have y1 := hCb.out RW hR
          obtain ⟨v101, e101, g101, f101⟩ := hd 8 101 (by kernel_rfl) rfl
          have f101 : v101 = .bool true := f101
          subst f101
          clear hk hd
          have HR := Lib.hid hR
          clear hR
          go_simp
          exact hK _ _ (Below.refl _ _) rfl
        · intro ra RW hR hk hd K hK
          have y0 := hCa.out RW hR
          have y1 := hCb.out RW hR
          obtain ⟨e7, g7⟩ := hk 7 (.pointer (some ⟨lpa, 0, none⟩)) (by kernel_rfl) rfl
          obtain ⟨v102, e102, g102, f102⟩ := hd 9 102 (by kernel_rfl) rfl
          have f102 : v102 = .bool true := f102
          subst f102
          clear hk hd
          have HR := Lib.hid hR
          clear hR
          go_simp
          exact hK _ _ (Below.refl _ _) rfl
        · intro ra RW hR hk hd K hK
          have y0 := hCa.out RW hR
          have y1 := hCb.out RW hR
          obtain ⟨v103, e103, g103, f103⟩ := hd 10 103 (by kernel_rfl) rfl
          have f103 : v103 = .pointer (some ⟨lpa, 0, none⟩) := f103
          subst f103
          obtain ⟨v102, e102, g102, f102⟩ := hd 9 102 (by kernel_rfl) rfl
          have f102 : v102 = .bool true := f102
          subst f102
          clear hk hd
          have HR := Lib.hid hR
          clear hR
          go_simp
          refine (hTa.out _ HR.out).mono ?_
          rintro e w2 ⟨v, rfl, hv, hb, -⟩
          exact hK _ _ hb hv
        · intro ra RW hR hk hd K hK
          have y0 := hCa.out RW hR
          have y1 := hCb.out RW hR
          obtain ⟨e9, g9⟩ := hk 9 (.pointer (some ⟨lpb, 0, none⟩)) (by kernel_rfl) rfl
          obtain ⟨v102, e102, g102, f102⟩ := hd 9 102 (by kernel_rfl) rfl
          have f102 : v102 = .bool true := f102
          subst f102
          clear hk hd
          have HR := Lib.hid hR
          clear hR
          go_simp
          exact hK _ _ (Below.refl _ _) rfl
        · intro ra RW hR hk hd K hK
          have y0 := hCa.out RW hR
          have y1 := hCb.out RW hR
          obtain ⟨v105, e105, g105, f105⟩ := hd 12 105 (by kernel_rfl) rfl
          have f105 : v105 = .pointer (some ⟨lpb, 0, none⟩) := f105
          subst f105
          obtain ⟨v102, e102, g102, f102⟩ := hd 9 102 (by kernel_rfl) rfl
          have f102 : v102 = .bool true := f102
          subst f102
          clear hk hd
          have HR := Lib.hid hR
          clear hR
          go_simp
          refine (hTb.out _ HR.out).mono ?_
          rintro e w2 ⟨v, rfl, hv, hb, -⟩
          exact hK _ _ hb hv
        · intro ra RW hR hk hd K hK
          have y0 := hCa.out RW hR
          have y1 := hCb.out RW hR
          obtain ⟨v104, e104, g104, f104⟩ := hd 11 104 (by kernel_rfl) rfl
          have F104 := Lib.hid f104
          clear f104
          obtain ⟨v106, e106, g106, f106⟩ := hd 13 106 (by kernel_rfl) rfl
          have F106 := Lib.hid f106
          clear f106
          obtain ⟨v102, e102, g102, f102⟩ := hd 9 102 (by kernel_rfl) rfl
          have f102 : v102 = .bool true := f102
          subst f102
          clear hk hd
          have HR := Lib.hid hR
          clear hR
          go_simp
          obtain ⟨A4, c4, rfl, hr4, -⟩ := Own.rdI F104.out
          obtain ⟨A6, c6, rfl, hr6, -⟩ := Own.rdI F106.out
          refine (ints_same A4 A6 tnl c4 c6 zi _ _ _ (by rw [HZ.out]; exact hr4) (by rw [HZ.out]; exact hr6) (by omega)).mono ?_
          rintro e w2 ⟨rfl, q, rfl⟩
          exact hK _ _ (below_drewN (Below.refl _ _) q) rfl
        · intro ra RW hR hk hd K hK
          have y0 := hCa.out RW hR
          have y1 := hCb.out RW hR
          obtain ⟨v102, e102, g102, f102⟩ := hd 9 102 (by kernel_rfl) rfl
          have f102 : v102 = .bool true := f102
          subst f102
          obtain ⟨v107, e107, g107, f107⟩ := hd 14 107 (by kernel_rfl) rfl
          have f107 : v107 = .bool true := f107
          subst f107
          clear hk hd
          have HR := Lib.hid hR
          clear hR
          go_simp
          exact hK _ _ (Below.refl _ _) rfl
        · intro ra RW hR hk hd K hK
          have y0 := hCa.out RW hR
          have y1 := hCb.out RW hR
          obtain ⟨v108, e108, g108, f108⟩ := hd 15 108 (by kernel_rfl) rfl
          have f108 : v108 = .bool true := f108
          subst f108
          clear hk hd
          have HR := Lib.hid hR
          clear hR
          go_simp
          exact hK _ _ (Below.refl _ _) rfl
      intro vs RW hR hF
      have q0 : vs 0 = .pointer (some ⟨spa, 0, none⟩) := hF 0 (by decide)
      have q1 : vs 1 = .pointer (some ⟨spa, 0, none⟩) := hF 1 (by decide)
      have q2 : vs 2 = .pointer (some ⟨spa, 1, none⟩) := hF 2 (by decide)
      have q3 : vs 3 = .slice Ga n ca := hF 3 (by decide)
      have q4 : vs 4 = .pointer (some ⟨spb, 0, none⟩) := hF 4 (by decide)
      have q5 : vs 5 = .pointer (some ⟨spb, 0, none⟩) := hF 5 (by decide)
      have q6 : vs 6 = .pointer (some ⟨spb, 1, none⟩) := hF 6 (by decide)
      have q7 : vs 7 = .slice Gb n cb := hF 7 (by decide)
      have q8 : vs 8 = .bool true := hF 8 (by decide)
      have q9 : vs 9 = .bool true := hF 9 (by decide)
      have q10 : vs 10 = .pointer (some ⟨lpa, 0, none⟩) := hF 10 (by decide)
      have F104 := Lib.hid (hF 11 (by decide))
      have q12 : vs 12 = .pointer (some ⟨lpb, 0, none⟩) := hF 12 (by decide)
      have F106 := Lib.hid (hF 13 (by decide))
      have q14 : vs 14 = .bool true := hF 14 (by decide)
      have q15 : vs 15 = .bool true := hF 15 (by decide)
      have q16 : vs 16 = .bool true := hF 16 (by decide)
      simp only [setAll, List.setIfInBounds_toArray, List.set_cons_zero, List.set_cons_succ, q0, q1, q2, q3, q4, q5, q6, q7, q8, q9, q10, q12, q14, q15, q16]
      clear hF q0 q1 q2 q3 q4 q5 q6 q7 q8 q9 q10 q12 q14 q15 q16
      generalize vs 11 = v104 at *
      generalize vs 13 = v106 at *
      clear vs
      go_wp2_with fail
      go_ret
      exact ⟨rfl, below_trans HB.out.drew hR⟩
end Go.Proofs.Ytamgngmbbbegpaa
