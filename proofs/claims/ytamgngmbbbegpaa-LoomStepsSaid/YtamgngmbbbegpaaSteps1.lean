/-
  The law LoomSteps of reedbedlaw20 returns true; no condition beyond those that each theorem states.
-/
import Derived.Test.YtamgngmbbbegpaaRuns1
import Derived.Test.YtamgngmbbbegpaaLoom11
namespace Go.Proofs.Ytamgngmbbbegpaa
open Go.RowKit Go.Rb
attribute [local irreducible] Go.wpQuiet

theorem turn_more {w0 w : World} {B : Nat} {S L R : Nat → Prop} {lp sp rp : Nat} {J : Option Addr} {n cj : Nat} {tv lv tnv tv2 u : Value} {tb : Nat → Nat} {m : Nat} {js : List Jb} {tk tk2 : List Int} {tn : List Nat} {l l2 : Nat} {xs ys : List Value}
    (ha : LmA w B S L lp sp J n cj tv lv tnv tb m js tk tn) (hr : StA w B R rp J n cj tv2 js tk2) (hu : Own w 3 1 u l xs) (hud : ∀ q, u.ownBlock = some q → B ≤ q ∧ ¬ S q ∧ ¬ L q ∧ ¬ R q) (hb : Below B w0 w)
    {o : Obj} {w5 : World} {g off c : Nat} (hO : Own w5 3 1 (.slice (some ⟨g, off, none⟩) l2 c) l2 ys) (hG : (w.alloc o).grownBy w5 u.ownBlock) (hat : u.ownBlock = some g ∨ g = (w.alloc o).heap.size) :
    LmA w5 B S L lp sp J n cj tv lv tnv tb m js tk tn ∧ StA w5 B R rp J n cj tv2 js tk2 ∧ Own w5 3 1 (.slice (some ⟨g, off, none⟩) l2 c) l2 ys ∧ (∀ q, (Value.slice (some ⟨g, off, none⟩) l2 c).ownBlock = some q → B ≤ q ∧ ¬ S q ∧ ¬ L q ∧ ¬ R q) ∧ Below B w0 w5 := by
  have h5 : Only (fun k => u.ownBlock = some k) w w5 := ((Only.refl _ w).alloc o).grown hG (fun k hk _ => hk)
  refine ⟨ha.frame h5 (fun k hk hh => (hud k hh).2.1 hk) (fun k hk hh => (hud k hh).2.2.1 hk) (fun k hk hh => by have := (hud k hh).1; omega), hr.frame h5 (fun k hk hh => (hud k hh).2.2.2 hk) (fun k hk hh => by have := (hud k hh).1; omega), hO, fun q hq => ?_, hb.trans (h5.below ha.sa.hB fun k hk => (hud k hk).1)⟩
  have e : g = q := by simpa [Value.ownBlock] using hq
  subst e
  rcases hat with h | h
  · exact hud g h
  · have e2 : (w.alloc o).heap.size = w.heap.size + 1 := by simp
    rw [e2] at h
    have := ha.sa.hB
    exact ⟨by omega, fun hh => by have := ha.sa.lt g hh; omega, fun hh => by have := ha.lt g hh; omega, fun hh => by have := hr.lt g hh; omega⟩

set_option maxRecDepth 20000 in
set_option maxHeartbeats 8000000 in
theorem steps_small (js : List Jb) (J : Option Addr) (n cj : Nat) (ps : List Int) (P : Option Addr) (np cp : Nat) (w : World) (hJ : Rd w w.heap.size 3 J n (flat3 (jrow js) n)) (hl : js.length = n) (hc : n ≤ cj)
    (hP : Rd w w.heap.size 1 P np (ps.map iV)) (hcp : np ≤ cp) (hs : smallP js) (hnp : np ≤ 60) :
    Calls Try.prog 5 #[.slice J n cj, .slice P np cp] w fun e w' => e = .returned (.bool true) ∧ Below w.heap.size w w' := by
  obtain ⟨i0, hi0, hz0, hz1, hz2⟩ := info_parts info3
  have hn : n ≤ 10 := by have := hs.1; omega
  have km : ∀ W : World, (Instr.makeSlice 23 (.int .i64 (n : Int)) (.int .i64 (n : Int))).run Try.prog W = .ok (.slice (some ⟨W.heap.size, 0, none⟩) n n) (W.alloc (.cells (madeCells #[.int .i64 0] n) 3)) := by
    intro W
    have := run_make (P := Try.prog) W 23 3 i0 _ Try.underlying23 hi0 hz0 .i64 .i64 n n (by omega) (by omega) (by rw [hz2]; omega) (by omega)
    rw [hz1] at this
    simp only [Int.toNat_natCast, Nat.mul_one] at this
    exact this
  have HJ := Lib.hid hJ
  have HP := Lib.hid hP
  have HS := Lib.hid hs
  have HSM := Lib.hid (fun W B h => small_any W B J n cj js h hl hc)
  have HMD := Lib.hid (fun W B h hB => made_any W B J n cj js h hl hc hB (by omega))
  have HST := Lib.hid (fun W B h hB => st_init W B J n cj js h hl hc hB (by omega))
  have HJL := Lib.hid hl
  have HPL := Lib.hid (show ps.length = np by simpa using hP.1)
  have i1 : ¬ (60 : Int) < (np : Int) := by omega
  clear hJ hP hs hl
  go_enter Try.func5, Try.ntmps5
  go_wp2_with fail
  refine (awake_any _).mono ?_
  rintro e1 w1 ⟨rfl, hb1⟩
  have HB1 := Lib.hid hb1
  clear hb1
  go_wp2_with fail
  refine (HSM.out w1 w.heap.size (HJ.out.below HB1.out)).mono ?_
  rw [decide_eq_true HS.out]
  rintro e2 w2 ⟨rfl, rfl⟩
  go_wp2_with fail
  refine (HMD.out _ w.heap.size (HJ.out.below HB1.out) HB1.out.size).mono ?_
  rintro e3 w3 ⟨lp, sp, S, L0, tv, lv, tnv0, tb, rfl, ha, hSS, hLL, hb3⟩
  have HB3 := Lib.hid (below_trans HB1.out hb3)
  have HA0 := Lib.hid ha
  have HNM := Lib.hid (lNames_any ha (by omega))
  clear ha hSS hLL hb3
  unfold pp at HNM ⊢
  go_wp2_with fail
  refine (addnil_any _ lp).mono ?_
  rintro e4 w4 ⟨rfl, rfl⟩
  go_wp2_with fail
  refine HNM.out.mono ?_
  rintro e4 w4 ⟨v4, rfl, hv4, hb4, -⟩
  obtain ⟨A4, c4, rfl, -, -⟩ := hv4.len_
  have HA4 := Lib.hid (HA0.out.below hb4)
  have HB4 := Lib.hid (below_trans HB3.out hb4)
  have HR4 := Lib.hid (HST.out w4 w.heap.size (HJ.out.below HB4.out) HB4.out.size)
  have hbn : Below w4.heap.size w4 ((w4.alloc (.cells (madeCells #[.int .i64 0] n) 3)).alloc (.cells #[.slice J n cj, .slice (some ⟨w4.heap.size, 0, none⟩) n n] 35)) := below_al (below_al (Below.refl _ w4) _) _
  have HA5 := Lib.hid (HA4.out.below hbn)
  have HB5 := Lib.hid (below_trans HB4.out hbn)
  clear hv4 hb4 hbn
  go_wp2_with fail
  generalize ((w4.alloc (.cells (madeCells #[.int .i64 0] n) 3)).alloc (.cells #[.slice J n cj, .slice (some ⟨w4.heap.size, 0, none⟩) n n] 35)) = w5 at *
  obtain ⟨R, hRdef⟩ : ∃ R : Nat → Prop, (fun k => k = w4.heap.size ∨ k = w4.heap.size + 1) = R := ⟨_, rfl⟩
  have HD : Hid (∀ q, (S q ∨ L0 q) → ¬ R q) := fun q h h' => by
    have : q < w4.heap.size := h.elim (HA4.out.sa.lt q) (HA4.out.lt q)
    rw [← hRdef] at h'
    have h' : q = w4.heap.size ∨ q = w4.heap.size + 1 := h'
    omega
  rw [hRdef] at HR4
  clear hRdef
  go_loopw [8, 9] (fun u iv wr => ∃ (i : Nat) (L : Nat → Prop) (tnv : Value) (tk : List Int) (tn : List Nat), i ≤ np ∧ iv = .int .i64 i ∧ Hid (Tk n tk i) ∧ Hid (tn.length ≤ i) ∧
    StA wr w.heap.size R (w4.heap.size + 1) J n cj (.slice (some ⟨w4.heap.size, 0, none⟩) n n) js tk ∧ LmA wr w.heap.size S L lp sp J n cj tv lv tnv tb n js tk tn ∧ Hid (∀ q, (S q ∨ L q) → ¬ R q) ∧
    Own wr 3 1 u tn.length (tn.map nV) ∧ Hid (∀ q, u.ownBlock = some q → w.heap.size ≤ q ∧ ¬ S q ∧ ¬ L q ∧ ¬ R q) ∧ Below w.heap.size w wr) (fun _ iv _ => np - (intOf iv).toNat)
  case atStart => exact ⟨0, _, _, _, [], by omega, rfl, tk_zero n, Nat.le_refl 0, HR4.out, HA5.out, HD.out, Own.nil_ _ _ _, by simp [Hid, Value.ownBlock], HB5.out⟩
  case round =>
    obtain ⟨i, L, tnv, tk, tn, hi, rfl, hTk, htn, hr, ha, hD, hu, hud, hbw⟩ := hrel
    have HA := Lib.hid ha
    have HRR := Lib.hid hr
    have HB := Lib.hid hbw
    have HU := Lib.hid hu
    obtain ⟨Au, cu, rfl, -, -⟩ := hu.len_
    clear ha hr hbw hu HA5 HA4 HA0 HD
    by_cases hlt : i < np
    · have j1 : (i : Int) < (np : Int) := by omega
      obtain ⟨pb, po, rfl, -, hcell⟩ := (HP.out.below HB.out).2 (by omega)
      have x0 := hcell i (by omega)
      rw [List.getElem?_map, List.getElem?_eq_getElem (by rw [HPL.out]; exact hlt)] at x0
      generalize ps[i]'(by rw [HPL.out]; exact hlt) = x at x0
      have X1 : Hid (wr.cell? ⟨pb, po + i, none⟩ = some (.int .i64 x)) := x0
      have HPB : Hid (∀ W, Below w.heap.size wr W → W.cell? ⟨pb, po + i, none⟩ = some (.int .i64 x)) := fun W hW => by
        obtain ⟨b', o', e, hlt', -⟩ := (HP.out.below HB.out).2 (by omega)
        simp only [Option.some.injEq, Addr.mk.injEq, and_true] at e
        obtain ⟨rfl, rfl⟩ := e
        exact (hW.cell (p := ⟨pb, po + i, none⟩) hlt').trans X1.out
      have HSm : Hid (Sm js tk) := tk_sm HS.out HJL.out hTk.out (by omega)
      have htl : tn.length ≤ 100000 := by have := htn.out; omega
      have hll := listP_len js tk n
      have HRD := Lib.hid (lReady_any HA.out HSm.out (by omega))
      have HTK := Lib.hid (tk_next hTk.out (pickO js tk n x))
      have HTN := Lib.hid (tn_next htn.out (pickO js tk n x))
      obtain ⟨o, ho⟩ : ∃ o, pickO js tk n x = o := ⟨_, rfl⟩
      have HO := Lib.hid ho
      rw [ho] at HTK HTN
      clear hcell x0 ho
      unfold pp at HRD
      go_wp2_with fail
      refine HRD.out.mono ?_
      rintro e5 w5a ⟨v5, rfl, hv5, hb5, -⟩
      obtain ⟨A5, c5, rfl, -, -⟩ := hv5.len_
      have HV5 := Lib.hid hv5
      have HA6 := Lib.hid (HA.out.below hb5)
      have HR6 := Lib.hid (HRR.out.below hb5)
      have HU6 := Lib.hid (HU.out.below hb5 fun _ h => HU.out.lt h)
      have HB6 := Lib.hid (below_trans HB.out hb5)
      have HX6 : Hid (Below w.heap.size wr w5a) := hb5.mono HB.out.size
      have HLI := Lib.hid (list_any HR6.out HSm.out (by omega))
      clear hv5 hb5
      unfold pp at HLI
      go_wp2_with fail
      refine HLI.out.mono ?_
      rintro e6 w6 ⟨v6, rfl, hv6, hb6, -⟩
      obtain ⟨A6, c6, rfl, -, -⟩ := hv6.len_
      have HI6 := Lib.hid (ints_same A5 A6 _ c5 c6 (nI (listP js tk n)) w6 _ _ (by rw [nI_map]; exact (HV5.out.below hb6 fun _ h => HV5.out.lt h).rd) (by rw [nI_map]; exact hv6.rd) (by omega))
      have HA7 := Lib.hid (HA6.out.below hb6)
      have HR7 := Lib.hid (HR6.out.below hb6)
      have HU7 := Lib.hid (HU6.out.below hb6 fun _ h => HU6.out.lt h)
      have HB7 := Lib.hid (below_trans HB6.out hb6)
      have HX7 : Hid (Below w.heap.size wr w6) := HX6.out.trans (hb6.mono HB6.out.size)
      clear hv6 hb6
      generalize listP js tk n = lst at *
      go_wp2_with fail
      refine HI6.out.mono ?_
      rintro e7 w7 ⟨rfl, q7, rfl⟩
      have x7 := HPB.out _ (below_drewN HX7.out q7)
      have HA8 := Lib.hid (HA7.out.below (below_drewN (Below.refl _ _) q7))
      have HR8 := Lib.hid (HR7.out.below (below_drewN (Below.refl _ _) q7))
      have HU8 := Lib.hid (HU7.out.drewN q7)
      have HB8 := Lib.hid (below_drewN HB7.out q7)
      have HX8 := Lib.hid (below_drewN HX7.out q7)
      have HSS := Lib.hid (lStep_any HA8.out HSm.out (by omega) htl x)
      rw [HO.out] at HSS
      generalize w6.drewN q7 = w8 at *
      rcases o with _ | u
      · unfold stepV at HSS
        unfold pp at HSS
        go_wp2_with fail
        refine HSS.out.mono ?_
        rintro e9 w9 ⟨rfl, L9, tnv9, ha9, hL9, hO9⟩
        have HA9 := Lib.hid ha9
        have HR9 := Lib.hid (HR8.out.frame hO9 (fun q hq hh => hD.out q hh hq) (fun q hq hh => by
          rcases hh with hh | hh
          · have := HA8.out.sa.sB q hh; omega
          · have := HA8.out.lB q hh; omega))
        have HU9 := Lib.hid (HU8.out.only hO9 fun q hq hh => hh.elim (hud.out q hq).2.1 (hud.out q hq).2.2.1)
        have hbx : Below w.heap.size w8 w9 := hO9.below HB8.out.size (fun q hh => hh.elim (HA8.out.sa.sB q) (HA8.out.lB q))
        have HB9 := Lib.hid (HB8.out.trans hbx)
        have HX9 := Lib.hid (HX8.out.trans hbx)
        have hD9 : Hid (∀ q, (S q ∨ L9 q) → ¬ R q) := fun q h h' => by
          rcases h with h | h
          · exact hD.out q (.inl h) h'
          · rcases hL9 q h with h | h
            · exact hD.out q (.inr h) h'
            · have := HR8.out.lt q h'; omega
        have hud9 : Hid (∀ q, (Value.slice Au tn.length cu).ownBlock = some q → w.heap.size ≤ q ∧ ¬ S q ∧ ¬ L9 q ∧ ¬ R q) := fun q hq => by
          obtain ⟨h1, h2, h3, h4⟩ := hud.out q hq
          refine ⟨h1, h2, fun h => ?_, h4⟩
          rcases hL9 q h with h | h
          · exact h3 h
          · have := HU8.out.lt hq; omega
        have HPI := Lib.hid (pick_any HR9.out HSm.out (by omega) x)
        rw [HO.out] at HPI
        have x9 := HPB.out _ HX9.out
        clear ha9 hL9 hO9 hbx
        unfold pp at HPI
        have hof : ofO none = -1 := rfl
        rw [hof] at HPI
        go_wp2_with fail
        refine HPI.out.mono ?_
        rintro e10 w10 ⟨rfl, hr10, hO10⟩
        have HA10 := Lib.hid (HA9.out.frame hO10 (fun q hq hh => hD9.out q (.inl hq) hh) (fun q hq hh => hD9.out q (.inr hq) hh) (fun q hq hh => by have := HR9.out.sB q hh; omega))
        have HU10 := Lib.hid (HU9.out.only hO10 fun q hq hh => (hud9.out q hq).2.2.2 hh)
        have HB10 := Lib.hid (HB9.out.trans (hO10.below HB9.out.size (fun q hh => HR9.out.sB q hh)))
        have HR10 := Lib.hid hr10
        obtain ⟨Ga, ca, e0, -, -⟩ := HA10.out.sa.ok.len_
        have y0 := HA10.out.sa.c1
        have y1 := HR10.out.c1
        rw [e0] at y0
        have hI : Hid (∀ m, Calls Try.prog 12 #[.slice Ga n ca, .slice (some ⟨w4.heap.size, 0, none⟩) n n] (w10.drewN m) fun e w' => e = .returned (.bool true) ∧ ∃ q, w' = (w10.drewN m).drewN q) := fun m =>
          ints_same Ga _ n ca n _ _ _ _ (by have := (HA10.out.below (below_drewN (Below.refl _ _) m)).sa.ok; rw [e0] at this; exact this.rd) (HR10.out.below (below_drewN (Below.refl _ _) m)).ok.rd (by omega)
        have E0 := Lib.hid e0
        clear hr10 hO10 e0
        go_wp2_with fail
        go_quiet ((go_at_call 12; exact quiet_more (hI.out _)))
        have HA11 := Lib.hid (HA10.out.below (below_drewN (Below.refl _ _) nq))
        have HR11 := Lib.hid (HR10.out.below (below_drewN (Below.refl _ _) nq))
        have HU11 := Lib.hid (HU10.out.drewN nq)
        have HB11 := Lib.hid (below_drewN HB10.out nq)
        generalize w10.drewN nq = w11 at *
        have HA12 := HA11
        have HR12 := HR11
        have HU12 := HU11
        have HB12 := HB11
        have HUD := hud9
        have HSTP := Lib.hid (lSteps_any HA12.out)
        have HTU := Lib.hid (lTurns_any HA12.out (by have := HTN.out; omega))
        have HTNx : Hid (tn.length ≤ i + 1) := HTN
        rw [show tnO tn none = tn from rfl] at HSTP HTU
        unfold pp at HSTP HTU
        go_wp2_with (go_at_call 16; refine HSTP.out.mono ?_; rintro e12 w12 ⟨rfl, rfl⟩)
        refine HTU.out.mono ?_
        rintro e13 w13 ⟨v13, rfl, hv13, hb13, -⟩
        obtain ⟨A13, c13, rfl, -, -⟩ := hv13.len_
        have HA13 := Lib.hid (HA12.out.below hb13)
        have HR13 := Lib.hid (HR12.out.below hb13)
        have HU13 := Lib.hid (HU12.out.below hb13 fun _ h => HU12.out.lt h)
        have HB13 := Lib.hid (below_trans HB12.out hb13)
        have HI13 := Lib.hid (ints_same A13 _ _ c13 cu (nI tn) w13 _ _ hv13.rd (by rw [nI_map]; exact HU13.out.rd) (by have := HTN.out; omega))
        clear hv13 hb13
        go_wp2_with fail
        refine HI13.out.mono ?_
        rintro e14 w14 ⟨rfl, q14, rfl⟩
        have HA14 := Lib.hid (HA13.out.below (below_drewN (Below.refl _ _) q14))
        have HR14 := Lib.hid (HR13.out.below (below_drewN (Below.refl _ _) q14))
        have HU14 := Lib.hid (HU13.out.drewN q14)
        have HB14 := Lib.hid (below_drewN HB13.out q14)
        go_wp2_with fail
        go_roundw
        case rel => exact ⟨i + 1, L9, tnv9, _, tn, by omega, by go_num, HTK, HTN, HR14.out, HA14.out, hD9, HU14.out, HUD, HB14.out⟩
        case measure => simp [intOf]; omega
      · unfold stepV at HSS
        unfold pp at HSS
        go_wp2_with fail
        refine HSS.out.mono ?_
        rintro e9 w9 ⟨rfl, L9, tnv9, ha9, hL9, hO9⟩
        have HA9 := Lib.hid ha9
        have HR9 := Lib.hid (HR8.out.frame hO9 (fun q hq hh => hD.out q hh hq) (fun q hq hh => by
          rcases hh with hh | hh
          · have := HA8.out.sa.sB q hh; omega
          · have := HA8.out.lB q hh; omega))
        have HU9 := Lib.hid (HU8.out.only hO9 fun q hq hh => hh.elim (hud.out q hq).2.1 (hud.out q hq).2.2.1)
        have hbx : Below w.heap.size w8 w9 := hO9.below HB8.out.size (fun q hh => hh.elim (HA8.out.sa.sB q) (HA8.out.lB q))
        have HB9 := Lib.hid (HB8.out.trans hbx)
        have HX9 := Lib.hid (HX8.out.trans hbx)
        have hD9 : Hid (∀ q, (S q ∨ L9 q) → ¬ R q) := fun q h h' => by
          rcases h with h | h
          · exact hD.out q (.inl h) h'
          · rcases hL9 q h with h | h
            · exact hD.out q (.inr h) h'
            · have := HR8.out.lt q h'; omega
        have hud9 : Hid (∀ q, (Value.slice Au tn.length cu).ownBlock = some q → w.heap.size ≤ q ∧ ¬ S q ∧ ¬ L9 q ∧ ¬ R q) := fun q hq => by
          obtain ⟨h1, h2, h3, h4⟩ := hud.out q hq
          refine ⟨h1, h2, fun h => ?_, h4⟩
          rcases hL9 q h with h | h
          · exact h3 h
          · have := HU8.out.lt hq; omega
        have HPI := Lib.hid (pick_any HR9.out HSm.out (by omega) x)
        rw [HO.out] at HPI
        have x9 := HPB.out _ HX9.out
        clear ha9 hL9 hO9 hbx
        unfold pp at HPI
        have hof : ofO (some u) = (u : Int) := rfl
        rw [hof] at HPI
        have hx0 : decide ((0 : Int) ≤ (u : Int)) = true := by simp
        go_wp2_with fail
        refine HPI.out.mono ?_
        rintro e10 w10 ⟨rfl, hr10, hO10⟩
        have HA10 := Lib.hid (HA9.out.frame hO10 (fun q hq hh => hD9.out q (.inl hq) hh) (fun q hq hh => hD9.out q (.inr hq) hh) (fun q hq hh => by have := HR9.out.sB q hh; omega))
        have HU10 := Lib.hid (HU9.out.only hO10 fun q hq hh => (hud9.out q hq).2.2.2 hh)
        have HB10 := Lib.hid (HB9.out.trans (hO10.below HB9.out.size (fun q hh => HR9.out.sB q hh)))
        have HR10 := Lib.hid hr10
        obtain ⟨Ga, ca, e0, -, -⟩ := HA10.out.sa.ok.len_
        have y0 := HA10.out.sa.c1
        have y1 := HR10.out.c1
        rw [e0] at y0
        have hI : Hid (∀ m, Calls Try.prog 12 #[.slice Ga n ca, .slice (some ⟨w4.heap.size, 0, none⟩) n n] (w10.drewN m) fun e w' => e = .returned (.bool true) ∧ ∃ q, w' = (w10.drewN m).drewN q) := fun m =>
          ints_same Ga _ n ca n _ _ _ _ (by have := (HA10.out.below (below_drewN (Below.refl _ _) m)).sa.ok; rw [e0] at this; exact this.rd) (HR10.out.below (below_drewN (Below.refl _ _) m)).ok.rd (by omega)
        have E0 := Lib.hid e0
        clear hr10 hO10 e0
        go_wp2_with fail
        go_quiet ((go_at_call 12; exact quiet_more (hI.out _)))
        have HA11 := Lib.hid (HA10.out.below (below_drewN (Below.refl _ _) nq))
        have HR11 := Lib.hid (HR10.out.below (below_drewN (Below.refl _ _) nq))
        have HU11 := Lib.hid (HU10.out.drewN nq)
        have HB11 := Lib.hid (below_drewN HB10.out nq)
        generalize w10.drewN nq = w11 at *
        have hlx : tn.length ≤ 60 := by have := htn.out; omega
        go_wp2_with (at_builtin; refine wpList_append_mine _ rfl (.tmp 114) (.tmp 116) _ rfl 3 i0 _ 1 8 Try.underlying23 hi0 hz0 hz1 hz2 rfl (by omega) (.slice Au tn.length cu) tn.length (tn.map nV) rfl (by exact HU11.out.alloc _) _ 1 1 [_] rfl rfl (by exact news_push rfl rfl) (by simp [Value.oneCell']) (by omega) (by simp only [maxLen]; omega) (by omega) _ rfl ?_; intro g5 o5 c5 w12 hown5 hgrow5 hat5; have HX5 := Lib.hid (turn_more HA11.out HR11.out HU11.out hud9.out HB11.out hown5 hgrow5 hat5); clear hown5 hgrow5 hat5)
        have HA12 := Lib.hid HX5.out.1
        have HR12 := Lib.hid HX5.out.2.1
        have hlen : (tn ++ [u]).length = tn.length + 1 := by simp
        have HU12 : Hid (Own w12 3 1 (.slice (some ⟨g5, o5, none⟩) (tn.length + 1) c5) (tn.length + 1) ((tn ++ [u]).map nV)) := by
          rw [List.map_append]; exact HX5.out.2.2.1
        have HUD := HX5.out.2.2.2.1
        have HB12 := Lib.hid HX5.out.2.2.2.2
        have HSTP := Lib.hid (lSteps_any HA12.out)
        have HTU := Lib.hid (lTurns_any HA12.out (by have := HTN.out; omega))
        rw [show tnO tn (some u) = tn ++ [u] from rfl, hlen] at HSTP HTU
        unfold pp at HSTP HTU
        refine HSTP.out.mono ?_
        rintro e12 w12' ⟨rfl, rfl⟩
        go_wp2_with fail
        refine HTU.out.mono ?_
        rintro e13 w13 ⟨v13, rfl, hv13, hb13, -⟩
        obtain ⟨A13, c13, rfl, -, -⟩ := hv13.len_
        have HA13 := Lib.hid (HA12.out.below hb13)
        have HR13 := Lib.hid (HR12.out.below hb13)
        have HU13 := Lib.hid (HU12.out.below hb13 fun _ h => HU12.out.lt h)
        have HB13 := Lib.hid (below_trans HB12.out hb13)
        have HI13 := Lib.hid (ints_same A13 _ _ c13 c5 (nI (tn ++ [u])) w13 _ _ hv13.rd (by rw [nI_map]; exact HU13.out.rd) (by have := HTN.out; omega))
        clear hv13 hb13
        go_wp2_with fail
        refine HI13.out.mono ?_
        rintro e14 w14 ⟨rfl, q14, rfl⟩
        have HA14 := Lib.hid (HA13.out.below (below_drewN (Below.refl _ _) q14))
        have HR14 := Lib.hid (HR13.out.below (below_drewN (Below.refl _ _) q14))
        have HU14 := Lib.hid (HU13.out.drewN q14)
        have HB14 := Lib.hid (below_drewN HB13.out q14)
        go_wp2_with fail
        go_roundw
        case rel => exact ⟨i + 1, L9, tnv9, _, (tn ++ [u]), by omega, by go_num, HTK, HTN, HR14.out, HA14.out, hD9, (by rw [hlen]; exact HU14.out), HUD, HB14.out⟩
        case measure => simp [intOf]; omega
    · obtain rfl : i = np := by omega
      go_wp2_with fail
      go_loopw [13, 14] (fun ov iv w2 => ∃ k : Nat, k ≤ n ∧ ov = .bool (decide (allOver js tk k)) ∧ iv = .int .i64 k ∧ Below wr.heap.size wr w2) (fun _ iv _ => n - (intOf iv).toNat)
      case atStart => exact ⟨0, by omega, by rw [decide_eq_true (show allOver js tk 0 from fun k hk => by omega)], rfl, Below.refl _ _⟩
      case round =>
        obtain ⟨k, hk, rfl, rfl, hb2⟩ := hrel
        have HB2 := Lib.hid hb2
        clear hb2
        by_cases hlt2 : k < n
        · have k1 : (k : Int) < (n : Int) := by omega
          have HO := Lib.hid (over_any (HRR.out.below HB2.out) k hlt2)
          unfold pp at HO
          have HAO : Hid (allOver js tk (k + 1) ↔ allOver js tk k ∧ overP js tk k) := ⟨fun h => ⟨fun j hj => h j (by omega), h k (by omega)⟩, fun h j hj => by
            by_cases e : j = k
            · subst e; exact h.2
            · exact h.1 j (by omega)⟩
          by_cases ha : allOver js tk k
          · rw [decide_eq_true ha]
            have hv : decide (allOver js tk (k + 1)) = decide (overP js tk k) := by rw [decide_eq_decide, HAO.out]; exact ⟨fun h => h.2, fun h => ⟨ha, h⟩⟩
            have HV := Lib.hid hv
            clear ha hv
            generalize decide (overP js tk k) = o2 at *
            go_wp2_with (go_at_call 20; refine HO.out.mono ?_; rintro e3 w3x ⟨rfl, q, rfl⟩)
            go_roundw
            case rel => exact ⟨k + 1, by omega, by rw [HV.out], by go_num, below_drewN HB2.out q⟩
            case measure => simp [intOf]; omega
          · rw [decide_eq_false ha]
            have hv : decide (allOver js tk (k + 1)) = false := decide_eq_false fun h => ha (HAO.out.1 h).1
            have HV := Lib.hid hv
            clear ha hv
            go_wp2_with fail
            go_roundw
            case rel => exact ⟨k + 1, by omega, by rw [HV.out], by go_num, HB2.out⟩
            case measure => simp [intOf]; omega
        · obtain rfl : k = n := by omega
          have HOV := Lib.hid (lOver_any (HA.out.below HB2.out) (by omega))
          unfold pp at HOV
          generalize decide (allOver js tk k) = o3 at *
          go_wp2_with fail
          refine HOV.out.mono ?_
          rintro e3 w3x ⟨rfl, hb3⟩
          have HB3x := Lib.hid (below_trans HB.out (below_trans HB2.out hb3))
          clear hb3
          go_wp2_with fail
          go_ret
          exact ⟨by simp, HB3x.out⟩
end Go.Proofs.Ytamgngmbbbegpaa
