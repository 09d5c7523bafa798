/-
  The law LoomRuns of reedbedlaw20 returns true; no condition beyond those that each theorem states.
-/
import Derived.Test.YtamgngmbbbegpaaRun1
namespace Go.Proofs.Ytamgngmbbbegpaa
open Go.RowKit Go.Rb
attribute [local irreducible] Go.wpQuiet

theorem st_init (w : World) (B : Nat) (J : Option Addr) (n cj : Nat) (js : List Jb) (hJ : Rd w B 3 J n (flat3 (jrow js) n)) (hl : js.length = n) (hc : n ≤ cj) (hB : B ≤ w.heap.size) (hn : n ≤ 1000) :
    StA ((w.alloc (.cells (madeCells #[.int .i64 0] n) 3)).alloc (.cells #[.slice J n cj, .slice (some ⟨w.heap.size, 0, none⟩) n n] 35))
      B (fun k => k = w.heap.size ∨ k = w.heap.size + 1) (w.heap.size + 1) J n cj (.slice (some ⟨w.heap.size, 0, none⟩) n n) js (List.replicate n 0) := by
  have h0 := Own.lit w 3 1 n (madeCells #[.int .i64 0] n) (by rw [size_madeCells]; omega) (by simp only [maxLen]; omega)
  rw [toList_madeCells_one, show List.replicate n (Value.int .i64 0) = (List.replicate n (0 : Int)).map iV from by simp [iV]] at h0
  have b1 := Blk.new (w.alloc (.cells (madeCells #[.int .i64 0] n) 3)) 35 #[.slice J n cj, .slice (some ⟨w.heap.size, 0, none⟩) n n]
  have e1 : (w.alloc (.cells (madeCells #[.int .i64 0] n) 3)).heap.size = w.heap.size + 1 := by simp
  rw [e1] at b1
  have hb : Below w.heap.size w ((w.alloc (.cells (madeCells #[.int .i64 0] n) 3)).alloc (.cells #[.slice J n cj, .slice (some ⟨w.heap.size, 0, none⟩) n n] 35)) := below_al (below_al (Below.refl _ w) _) _
  refine ⟨b1, hJ.below (hb.mono hB), hl, hc, h0.alloc _, by simp, .inr rfl, fun k hk => .inl ?_, fun k hk => ?_, fun k hk => ?_, ?_⟩
  · have : w.heap.size = k := by simpa [Value.ownBlock] using hk
    exact this.symm
  · rcases hk with rfl | rfl
    · simp; omega
    · simp
  · omega
  · simp; omega
theorem pick_none {js : List Jb} {tk : List Int} {n : Nat} {p : Int} (h : pickO js tk n p = none) : (listP js tk n).length = 0 := by
  unfold pickO at h
  split at h
  · assumption
  · cases h

set_option maxRecDepth 20000 in
set_option maxHeartbeats 8000000 in
theorem runs_small (js : List Jb) (J : Option Addr) (n cj : Nat) (ps : List Int) (P : Option Addr) (np cp : Nat) (w : World) (hJ : Rd w w.heap.size 3 J n (flat3 (jrow js) n)) (hl : js.length = n) (hc : n ≤ cj)
    (hP : Rd w w.heap.size 1 P np (ps.map iV)) (hcp : np ≤ cp) (hs : smallP js) (hnp : np ≤ 60) :
    Calls Try.prog 4 #[.slice J n cj, .slice P np cp] w fun e w' => e = .returned (.bool true) ∧ Below w.heap.size w w' := by
  obtain ⟨i0, hi0, hz0, hz1, hz2⟩ := info_parts info3
  have hn : n ≤ 10 := by have := hs.1; omega
  have km : ∀ W : World, (Instr.makeSlice 23 (.int .i64 (n : Int)) (.int .i64 (n : Int))).run Try.prog W = .ok (.slice (some ⟨W.heap.size, 0, none⟩) n n) (W.alloc (.cells (madeCells #[.int .i64 0] n) 3)) := by
    intro W
    have := run_make (P := Try.prog) W 23 3 i0 _ Try.underlying23 hi0 hz0 .i64 .i64 n n (by omega) (by omega) (by rw [hz2]; omega) (by omega)
    rw [hz1] at this
    simp only [Int.toNat_natCast, Nat.mul_one] at this
    exact this
  have HJ := Lib.hid hJ
  have HP := Lib.hid hP
  have HS := Lib.hid hs
  have HSM := Lib.hid (fun W B h => small_any W B J n cj js h hl hc)
  have HMD := Lib.hid (fun W B h hB => made_any W B J n cj js h hl hc hB (by omega))
  have HST := Lib.hid (fun W B h hB => st_init W B J n cj js h hl hc hB (by omega))
  have HJL := Lib.hid hl
  have HPL := Lib.hid (show ps.length = np by simpa using hP.1)
  have i1 : ¬ (60 : Int) < (np : Int) := by omega
  clear hJ hP hs hl
  go_enter Try.func4, Try.ntmps4
  go_wp2_with fail
  refine (awake_any _).mono ?_
  rintro e1 w1 ⟨rfl, hb1⟩
  have HB1 := Lib.hid hb1
  clear hb1
  go_wp2_with fail
  refine (HSM.out w1 w.heap.size (HJ.out.below HB1.out)).mono ?_
  rw [decide_eq_true HS.out]
  rintro e2 w2 ⟨rfl, rfl⟩
  go_wp2_with fail
  refine (HMD.out _ w.heap.size (HJ.out.below HB1.out) HB1.out.size).mono ?_
  rintro e3 w3 ⟨lp, sp, S, L0, tv, lv, tnv0, tb, rfl, ha, hSS, hLL, hb3⟩
  have HB3 := Lib.hid (below_trans HB1.out hb3)
  have HRUN := Lib.hid (lRun_any ha HS.out (Rn.zero n) (by simp) P np cp ps (HP.out.below HB3.out) hcp (by omega))
  have HA0 := Lib.hid ha
  clear ha hSS hLL hb3
  unfold pp at HRUN ⊢
  go_wp2_with fail
  refine HRUN.out.mono ?_
  rintro e4 w4 ⟨i, rfl, hstop, L, tnv, tn, ha4, htn, hL4, hO4⟩
  have HB4 : Hid (Below w.heap.size w w4) := HB3.out.trans (hO4.below HB3.out.size (fun q hh => hh.elim (HA0.out.sa.sB q) (HA0.out.lB q)))
  have HSP := Lib.hid hstop
  have HTN := Lib.hid htn
  have HA4 := Lib.hid ha4
  have HR4 := Lib.hid (HST.out w4 w.heap.size (HJ.out.below HB4.out) HB4.out.size)
  have hbn : Below w4.heap.size w4 ((w4.alloc (.cells (madeCells #[.int .i64 0] n) 3)).alloc (.cells #[.slice J n cj, .slice (some ⟨w4.heap.size, 0, none⟩) n n] 35)) := below_al (below_al (Below.refl _ w4) _) _
  have HA5 := Lib.hid (HA4.out.below hbn)
  have HB5 := Lib.hid (below_trans HB4.out hbn)
  clear hstop htn ha4 hL4 hO4 hbn
  go_wp2_with fail
  generalize ((w4.alloc (.cells (madeCells #[.int .i64 0] n) 3)).alloc (.cells #[.slice J n cj, .slice (some ⟨w4.heap.size, 0, none⟩) n n] 35)) = w5 at *
  have HD : Hid (∀ q, (S q ∨ L q) → ¬ (q = w4.heap.size ∨ q = w4.heap.size + 1)) := fun q h h' => by
    have : q < w4.heap.size := h.elim (HA4.out.sa.lt q) (HA4.out.lt q)
    omega
  go_loopw [9, 10] (fun cv iv wr => ∃ j : Nat, j ≤ 500 ∧ cv = .int .i64 j ∧ iv = .int .i64 j ∧ Hid (∀ j', j' < j → pickO js (runTk js ps n (List.replicate n 0) j') n (pk ps j') ≠ none) ∧
    StA wr w.heap.size (fun k => k = w4.heap.size ∨ k = w4.heap.size + 1) (w4.heap.size + 1) J n cj (.slice (some ⟨w4.heap.size, 0, none⟩) n n) js (runTk js ps n (List.replicate n 0) j) ∧
    LmA wr w.heap.size S L lp sp J n cj tv lv tnv tb n js (runTk js ps n (List.replicate n 0) i) tn ∧ Below w.heap.size w wr) (fun cv _ _ => 501 - (intOf cv).toNat)
  case atStart => exact ⟨0, by omega, rfl, rfl, fun j hj => by omega, HR4.out, HA5.out, HB5.out⟩
  case round =>
    obtain ⟨j, hj, rfl, rfl, hno, hr, ha, hbw⟩ := hrel
    have HA := Lib.hid ha
    have HRR := Lib.hid hr
    have HB := Lib.hid hbw
    have HRI := Lib.hid (runTk_rn (ps := ps) (Rn.zero n) HS.out HJL.out j hno.out)
    have hsm : Sm js (runTk js ps n (List.replicate n 0) j) := HRI.out.sm HS.out HJL.out
    have HPI := Lib.hid (pick_any HRR.out hsm (by omega) (pk ps j))
    have HN1 : Hid (runTk js ps n (List.replicate n 0) (j + 1) = incO (runTk js ps n (List.replicate n 0) j) (pickO js (runTk js ps n (List.replicate n 0) j) n (pk ps j))) := rfl
    have HPK : Hid (pk ps j = if j < ps.length then ps.getD j 0 else (j : Int) - (ps.length : Int)) := rfl
    rw [HPL.out] at HPK
    have HRN2 : Hid (∀ x, pickO js (runTk js ps n (List.replicate n 0) j) n (pk ps j) = some x → j + 1 ≤ 500) := fun x hx => by
      obtain ⟨h1, h2⟩ := pick_lt hx
      have := (HRI.out.next HS.out HJL.out h1 h2).le hn
      omega
    have HSX : Hid (pickO js (runTk js ps n (List.replicate n 0) j) n (pk ps j) = none → i = j ∧ (listP js (runTk js ps n (List.replicate n 0) j) n).length = 0) := fun h => ⟨HSP.out.same ⟨h, hno.out⟩, pick_none h⟩
    have HNX : Hid (pickO js (runTk js ps n (List.replicate n 0) j) n (pk ps j) ≠ none → ∀ j', j' < j + 1 → pickO js (runTk js ps n (List.replicate n 0) j') n (pk ps j') ≠ none) := fun h j' hj' => by
      by_cases e : j' = j
      · subst e; exact h
      · exact hno.out j' (by omega)
    clear hr ha hbw hno hsm
    generalize hp : pk ps j = p at *
    have HPE := Lib.hid hp
    clear hp
    obtain ⟨o, ho⟩ : ∃ o, pickO js (runTk js ps n (List.replicate n 0) j) n p = o := ⟨_, rfl⟩
    rw [ho] at HPI HN1 HRN2 HSX HNX
    clear ho
    unfold pp at HPI
    by_cases hlt : j < np
    · have j1 : (j : Int) < (np : Int) := by omega
      obtain ⟨pb, po, rfl, -, hcell⟩ := (HP.out.below HB.out).2 (by omega)
      have x0 := hcell j (by omega)
      rw [List.getElem?_map, List.getElem?_eq_getElem (by rw [HPL.out]; exact hlt)] at x0
      have hpe : p = ps[j]'(by rw [HPL.out]; exact hlt) := by
        rw [HPK.out, if_pos hlt, List.getD_eq_getElem?_getD, List.getElem?_eq_getElem (by rw [HPL.out]; exact hlt)]; rfl
      rw [← hpe] at x0
      have x1 : wr.cell? ⟨pb, po + j, none⟩ = some (.int .i64 p) := x0
      clear hcell x0 hpe
      rcases o with _ | x
      · have hof : ofO none = -1 := rfl
        rw [hof] at HPI
        go_wp2_with fail
        refine HPI.out.mono ?_
        rintro e6 w6 ⟨rfl, hr6, hO6⟩
        have HA6 := Lib.hid (HA.out.frame hO6 (fun q hq hh => HD.out q (.inl hq) hh) (fun q hq hh => HD.out q (.inr hq) hh) (fun q hq hh => by have := HRR.out.sB q hh; omega))
        have HB6 : Hid (Below w.heap.size w w6) := HB.out.trans (hO6.below HB.out.size (fun q hh => HRR.out.sB q hh))
        have HR6 : Hid (StA w6 w.heap.size (fun k => k = w4.heap.size ∨ k = w4.heap.size + 1) (w4.heap.size + 1) J n cj (.slice (some ⟨w4.heap.size, 0, none⟩) n n) js (runTk js ps n (List.replicate n 0) j)) := hr6
        clear hr6 hO6
        obtain ⟨rfl, hl0⟩ := HSX.out (by simp)
        have HL0 := Lib.hid hl0
        clear hl0
        have hsm : Hid (Sm js (runTk js ps n (List.replicate n 0) i)) := HRI.out.sm HS.out HJL.out
        obtain ⟨Ga, ca, rfl, -, -⟩ := HA6.out.sa.ok.len_
        have BD := fun (W : World) (hW : Below w6.drew.heap.size w6.drew W) => (Below.refl w6.heap.size w6).drew.trans hW
        have hCa : Hid (∀ W, Below w6.drew.heap.size w6.drew W → W.cell? ⟨sp, 1, none⟩ = some (.slice Ga n ca)) := fun W hW => (HA6.out.below (BD W hW)).sa.c1
        obtain ⟨rp, hrp⟩ : ∃ rp, w4.heap.size + 1 = rp := ⟨_, rfl⟩
        obtain ⟨Gb, hGb⟩ : ∃ G : Option Addr, some ⟨w4.heap.size, 0, none⟩ = G := ⟨_, rfl⟩
        obtain ⟨cb, hcb⟩ : ∃ c, n = c := ⟨_, rfl⟩
        have hCb : Hid (∀ W, Below w6.drew.heap.size w6.drew W → W.cell? ⟨rp, 1, none⟩ = some (.slice Gb n cb)) := fun W hW => by
          have := (HR6.out.below (BD W hW)).c1
          rw [← hrp, ← hGb, ← hcb]; exact this
        have hI : Hid (∀ W, Below w6.drew.heap.size w6.drew W → Calls Try.prog 12 #[.slice Ga n ca, .slice Gb n cb] W fun e w' => e = .returned (.bool true) ∧ ∃ q, w' = W.drewN q) := fun W hW => by
          rw [← hGb, ← hcb]
          exact ints_same Ga _ n ca n (runTk js ps n (List.replicate n 0) i) W _ _ (HA6.out.below (BD W hW)).sa.ok.rd (HR6.out.below (BD W hW)).ok.rd (by omega)
        have hSt : Hid (∀ W, Below w6.drew.heap.size w6.drew W → Calls Try.prog 16 #[.pointer (some ⟨lp, 0, none⟩)] W fun e w' => e = .returned (.int .i64 (i : Int)) ∧ W = w') := fun W hW => by
          have := lSteps_any (HA6.out.below (BD W hW))
          rw [HTN.out, show ([] : List Nat).length + i = i from Nat.zero_add i] at this
          exact this
        have hRd : Hid (∀ W, Below w6.drew.heap.size w6.drew W → Calls Try.prog 10 #[.pointer (some ⟨lp, 0, none⟩)] W fun e w' => ∃ v, e = .returned v ∧ Own w' 3 1 v 0 ((listP js (runTk js ps n (List.replicate n 0) i) n).map nV) ∧ Below W.heap.size W w' ∧ ∀ k, v.ownBlock = some k → W.heap.size ≤ k) := fun W hW => by
          have := lReady_any (HA6.out.below (BD W hW)) hsm.out (by omega)
          rw [HL0.out] at this
          exact this
        have hRu : Hid (∀ W, Below w6.drew.heap.size w6.drew W → Calls Try.prog 14 #[.pointer (some ⟨lp, 0, none⟩), .slice none 0 0] W fun e w' => e = .returned (.int .i64 0) ∧ Below W.heap.size W w') := fun W hW => lRun_none (HA6.out.below (BD W hW)) hsm.out (by omega) HL0.out
        rw [hrp]
        clear hrp hGb hcb BD
        go_wp2_with fail
        refine region_rows (by kernel_rfl) (fun W W' => Below W.heap.size W W')
          [.val (.int .i64 (i : Int)),
           .val (.int .i64 (i : Int)),
           .val (.bool true),
           .val (.bool true),
           .val (.pointer (some ⟨lp, 0, none⟩)),
           .val (.int .i64 (i : Int)),
           .val (.int .i64 (i : Int)),
           .val (.bool true),
           .val (.bool true),
           .val (.bool true),
           .val (.pointer (some ⟨sp, 0, none⟩)),
           .val (.pointer (some ⟨sp, 0, none⟩)),
           .val (.pointer (some ⟨sp, 1, none⟩)),
           .val (.slice Ga n ca),
           .val (.pointer (some ⟨rp, 0, none⟩)),
           .val (.pointer (some ⟨rp, 0, none⟩)),
           .val (.pointer (some ⟨rp, 1, none⟩)),
           .val (.slice Gb n cb),
           .val (.bool true),
           .val (.bool true),
           .val (.bool true),
           .val (.pointer (some ⟨lp, 0, none⟩)),
           ⟨fun v _ => ∃ A c, v = .slice A 0 c, fun _ _ _ h _ => h⟩,
           .val (.int .i64 0),
           .val (.bool true),
           .val (.bool true),
           .val (.bool true),
           .val (.pointer (some ⟨lp, 0, none⟩)),
           .val (.int .i64 0),
           .val (.bool true),
           .val (.bool true),
           .val (.bool true)]
          (fun W => Below.refl _ W) (fun _ _ _ h k => below_trans h k) (by kernel_rfl) ?_ ?_
        · refine ⟨?_, ?_, ?_, ?_, ?_, ?_, ?_, ?_, ?_, ?_, ?_, ?_, ?_, ?_, ?_, ?_, ?_, ?_, ?_, ?_, ?_, ?_, ?_, ?_, ?_, ?_, ?_, ?_, ?_, ?_, ?_, ?_, trivial⟩
          · intro ra RW hR hk hd K hK
            have y0 := hCa.out RW hR
            have y1 := hCb.out RW hR
            obtain ⟨e7, g7⟩ := hk 7 (.int .i64 (i : Int)) (by kernel_rfl) rfl
            clear hk hd
            have HR := Lib.hid hR
            clear hR
            go_simp
            exact hK _ _ (Below.refl _ _) rfl
          · intro ra RW hR hk hd K hK
            have y0 := hCa.out RW hR
            have y1 := hCb.out RW hR
            obtain ⟨e9, g9⟩ := hk 9 (.int .i64 (i : Int)) (by kernel_rfl) rfl
            clear hk hd
            have HR := Lib.hid hR
            clear hR
            go_simp
            exact hK _ _ (Below.refl _ _) rfl
          · intro ra RW hR hk hd K hK
            have y0 := hCa.out RW hR
            have y1 := hCb.out RW hR
            obtain ⟨v61, e61, g61, f61⟩ := hd 0 61 (by kernel_rfl) rfl
            have f61 : v61 = .int .i64 (i : Int) := f61
            subst f61
            obtain ⟨v62, e62, g62, f62⟩ := hd 1 62 (by kernel_rfl) rfl
            have f62 : v62 = .int .i64 (i : Int) := f62
            subst f62
            clear hk hd
            have HR := Lib.hid hR
            clear hR
            go_simp
            exact hK _ _ (Below.refl _ _) rfl
          · intro ra RW hR hk hd K hK
            have y0 := hCa.out RW hR
            have y1 := hCb.out RW hR
            obtain ⟨v63, e63, g63, f63⟩ := hd 2 63 (by kernel_rfl) rfl
            have f63 : v63 = .bool true := f63
            subst f63
            clear hk hd
            have HR := Lib.hid hR
            clear hR
            go_simp
            exact hK _ _ (Below.refl _ _) rfl
          · intro ra RW hR hk hd K hK
            have y0 := hCa.out RW hR
            have y1 := hCb.out RW hR
            obtain ⟨e5, g5⟩ := hk 5 (.pointer (some ⟨lp, 0, none⟩)) (by kernel_rfl) rfl
            obtain ⟨v64, e64, g64, f64⟩ := hd 3 64 (by kernel_rfl) rfl
            have f64 : v64 = .bool true := f64
            subst f64
            clear hk hd
            have HR := Lib.hid hR
            clear hR
            go_simp
            exact hK _ _ (Below.refl _ _) rfl
          · intro ra RW hR hk hd K hK
            have y0 := hCa.out RW hR
            have y1 := hCb.out RW hR
            obtain ⟨v65, e65, g65, f65⟩ := hd 4 65 (by kernel_rfl) rfl
            have f65 : v65 = .pointer (some ⟨lp, 0, none⟩) := f65
            subst f65
            obtain ⟨v64, e64, g64, f64⟩ := hd 3 64 (by kernel_rfl) rfl
            have f64 : v64 = .bool true := f64
            subst f64
            clear hk hd
            have HR := Lib.hid hR
            clear hR
            go_simp
            refine (hSt.out _ HR.out).mono ?_
            rintro e w2 ⟨rfl, rfl⟩
            exact hK _ _ (Below.refl _ _) rfl
          · intro ra RW hR hk hd K hK
            have y0 := hCa.out RW hR
            have y1 := hCb.out RW hR
            obtain ⟨e7, g7⟩ := hk 7 (.int .i64 (i : Int)) (by kernel_rfl) rfl
            obtain ⟨v64, e64, g64, f64⟩ := hd 3 64 (by kernel_rfl) rfl
            have f64 : v64 = .bool true := f64
            subst f64
            clear hk hd
            have HR := Lib.hid hR
            clear hR
            go_simp
            exact hK _ _ (Below.refl _ _) rfl
          · intro ra RW hR hk hd K hK
            have y0 := hCa.out RW hR
            have y1 := hCb.out RW hR
            obtain ⟨v66, e66, g66, f66⟩ := hd 5 66 (by kernel_rfl) rfl
            have f66 : v66 = .int .i64 (i : Int) := f66
            subst f66
            obtain ⟨v67, e67, g67, f67⟩ := hd 6 67 (by kernel_rfl) rfl
            have f67 : v67 = .int .i64 (i : Int) := f67
            subst f67
            obtain ⟨v64, e64, g64, f64⟩ := hd 3 64 (by kernel_rfl) rfl
            have f64 : v64 = .bool true := f64
            subst f64
            clear hk hd
            have HR := Lib.hid hR
            clear hR
            go_simp
            exact hK _ _ (Below.refl _ _) rfl
          · intro ra RW hR hk hd K hK
            have y0 := hCa.out RW hR
            have y1 := hCb.out RW hR
            obtain ⟨v64, e64, g64, f64⟩ := hd 3 64 (by kernel_rfl) rfl
            have f64 : v64 = .bool true := f64
            subst f64
            obtain ⟨v68, e68, g68, f68⟩ := hd 7 68 (by kernel_rfl) rfl
            have f68 : v68 = .bool true := f68
            subst f68
            clear hk hd
            have HR := Lib.hid hR
            clear hR
            go_simp
            exact hK _ _ (Below.refl _ _) rfl
          · intro ra RW hR hk hd K hK
            have y0 := hCa.out RW hR
            have y1 := hCb.out RW hR
            obtain ⟨v69, e69, g69, f69⟩ := hd 8 69 (by kernel_rfl) rfl
            have f69 : v69 = .bool true := f69
            subst f69
            clear hk hd
            have HR := Lib.hid hR
            clear hR
            go_simp
            exact hK _ _ (Below.refl _ _) rfl
          · intro ra RW hR hk hd K hK
            have y0 := hCa.out RW hR
            have y1 := hCb.out RW hR
            obtain ⟨e6, g6⟩ := hk 6 (.pointer (some ⟨sp, 0, none⟩)) (by kernel_rfl) rfl
            obtain ⟨v70, e70, g70, f70⟩ := hd 9 70 (by kernel_rfl) rfl
            have f70 : v70 = .bool true := f70
            subst f70
            clear hk hd
            have HR := Lib.hid hR
            clear hR
            go_simp
            exact hK _ _ (Below.refl _ _) rfl
          · intro ra RW hR hk hd K hK
            have y0 := hCa.out RW hR
            have y1 := hCb.out RW hR
            obtain ⟨v71, e71, g71, f71⟩ := hd 10 71 (by kernel_rfl) rfl
            have f71 : v71 = .pointer (some ⟨sp, 0, none⟩) := f71
            subst f71
            obtain ⟨v70, e70, g70, f70⟩ := hd 9 70 (by kernel_rfl) rfl
            have f70 : v70 = .bool true := f70
            subst f70
            clear hk hd
            have HR := Lib.hid hR
            clear hR
            go_simp
            exact hK _ _ (Below.refl _ _) rfl
          · intro ra RW hR hk hd K hK
            have y0 := hCa.out RW hR
            have y1 := hCb.out RW hR
            obtain ⟨v72, e72, g72, f72⟩ := hd 11 72 (by kernel_rfl) rfl
            have f72 : v72 = .pointer (some ⟨sp, 0, none⟩) := f72
            subst f72
            obtain ⟨v70, e70, g70, f70⟩ := hd 9 70 (by kernel_rfl) rfl
            have f70 : v70 = .bool true := f70
            subst f70
            clear hk hd
            have HR := Lib.hid hR
            clear hR
            go_simp
            exact hK _ _ (Below.refl _ _) rfl
          · intro ra RW hR hk hd K hK
            have y0 := hCa.out RW hR
            have y1 := hCb.out RW hR
            obtain ⟨v73, e73, g73, f73⟩ := hd 12 73 (by kernel_rfl) rfl
            have f73 : v73 = .pointer (some ⟨sp, 1, none⟩) := f73
            subst f73
            obtain ⟨v70, e70, g70, f70⟩ := hd 9 70 (by kernel_rfl) rfl
            have f70 : v70 = .bool true := f70
            subst f70
            clear hk hd
            have HR := Lib.hid hR
            clear hR
            go_simp
            exact hK _ _ (Below.refl _ _) rfl
          · intro ra RW hR hk hd K hK
            have y0 := hCa.out RW hR
            have y1 := hCb.out RW hR
            obtain ⟨e8, g8⟩ := hk 8 (.pointer (some ⟨rp, 0, none⟩)) (by kernel_rfl) rfl
            obtain ⟨v70, e70, g70, f70⟩ := hd 9 70 (by kernel_rfl) rfl
            have f70 : v70 = .bool true := f70
            subst f70
            clear hk hd
            have HR := Lib.hid hR
            clear hR
            go_simp
            exact hK _ _ (Below.refl _ _) rfl
          · intro ra RW hR hk hd K hK
            have y0 := hCa.out RW hR
            have y1 := hCb.out RW hR
            obtain ⟨v75, e75, g75, f75⟩ := hd 14 75 (by kernel_rfl) rfl
            have f75 : v75 = .pointer (some ⟨rp, 0, none⟩) := f75
            subst f75
            obtain ⟨v70, e70, g70, f70⟩ := hd 9 70 (by kernel_rfl) rfl
            have f70 : v70 = .bool true := f70
            subst f70
            clear hk hd
            have HR := Lib.hid hR
            clear hR
            go_simp
            exact hK _ _ (Below.refl _ _) rfl
          · intro ra RW hR hk hd K hK
            have y0 := hCa.out RW hR
            have y1 := hCb.out RW hR
            obtain ⟨v76, e76, g76, f76⟩ := hd 15 76 (by kernel_rfl) rfl
            have f76 : v76 = .pointer (some ⟨rp, 0, none⟩) := f76
            subst f76
            obtain ⟨v70, e70, g70, f70⟩ := hd 9 70 (by kernel_rfl) rfl
            have f70 : v70 = .bool true := f70
            subst f70
            clear hk hd
            have HR := Lib.hid hR
            clear hR
            go_simp
            exact hK _ _ (Below.refl _ _) rfl
          · intro ra RW hR hk hd K hK
            have y0 := hCa.out RW hR
            have y1 := hCb.out RW hR
            obtain ⟨v77, e77, g77, f77⟩ := hd 16 77 (by kernel_rfl) rfl
            have f77 : v77 = .pointer (some ⟨rp, 1, none⟩) := f77
            subst f77
            obtain ⟨v70, e70, g70, f70⟩ := hd 9 70 (by kernel_rfl) rfl
            have f70 : v70 = .bool true := f70
            subst f70
            clear hk hd
            have HR := Lib.hid hR
            clear hR
            go_simp
            exact hK _ _ (Below.refl _ _) rfl
          · intro ra RW hR hk hd K hK
            have y0 := hCa.out RW hR
            have y1 := hCb.out RW hR
            obtain ⟨v74, e74, g74, f74⟩ := hd 13 74 (by kernel_rfl) rfl
            have f74 : v74 = .slice Ga n ca := f74
            subst f74
            obtain ⟨v78, e78, g78, f78⟩ := hd 17 78 (by kernel_rfl) rfl
            have f78 : v78 = .slice Gb n cb := f78
            subst f78
            obtain ⟨v70, e70, g70, f70⟩ := hd 9 70 (by kernel_rfl) rfl
            have f70 : v70 = .bool true := f70
            subst f70
            clear hk hd
            have HR := Lib.hid hR
            clear hR
            go_simp
            refine (hI.out _ HR.out).mono ?_
            rintro e w2 ⟨rfl, q, rfl⟩
            exact hK _ _ (below_drewN (Below.refl _ _) q) rfl
          · intro ra RW hR hk hd K hK
            have y0 := hCa.out RW hR
            have y1 := hCb.out RW hR
            obtain ⟨v70, e70, g70, f70⟩ := hd 9 70 (by kernel_rfl) rfl
            have f70 : v70 = .bool true := f70
            subst f70
            obtain ⟨v79, e79, g79, f79⟩ := hd 18 79 (by kernel_rfl) rfl
            have f79 : v79 = .bool true := f79
            subst f79
            clear hk hd
            have HR := Lib.hid hR
            clear hR
            go_simp
            exact hK _ _ (Below.refl _ _) rfl
          · intro ra RW hR hk hd K hK
            have y0 := hCa.out RW hR
            have y1 := hCb.out RW hR
            obtain ⟨v80, e80, g80, f80⟩ := hd 19 80 (by kernel_rfl) rfl
            have f80 : v80 = .bool true := f80
            subst f80
            clear hk hd
            have HR := Lib.hid hR
            clear hR
            go_simp
            exact hK _ _ (Below.refl _ _) rfl
          · intro ra RW hR hk hd K hK
            have y0 := hCa.out RW hR
            have y1 := hCb.out RW hR
            obtain ⟨e5, g5⟩ := hk 5 (.pointer (some ⟨lp, 0, none⟩)) (by kernel_rfl) rfl
            obtain ⟨v81, e81, g81, f81⟩ := hd 20 81 (by kernel_rfl) rfl
            have f81 : v81 = .bool true := f81
            subst f81
            clear hk hd
            have HR := Lib.hid hR
            clear hR
            go_simp
            exact hK _ _ (Below.refl _ _) rfl
          · intro ra RW hR hk hd K hK
            have y0 := hCa.out RW hR
            have y1 := hCb.out RW hR
            obtain ⟨v82, e82, g82, f82⟩ := hd 21 82 (by kernel_rfl) rfl
            have f82 : v82 = .pointer (some ⟨lp, 0, none⟩) := f82
            subst f82
            obtain ⟨v81, e81, g81, f81⟩ := hd 20 81 (by kernel_rfl) rfl
            have f81 : v81 = .bool true := f81
            subst f81
            clear hk hd
            have HR := Lib.hid hR
            clear hR
            go_simp
            refine (hRd.out _ HR.out).mono ?_
            rintro e w2 ⟨v, rfl, hv, hb, -⟩
            obtain ⟨A8, c8, rfl, -, -⟩ := hv.len_
            exact hK _ _ hb ⟨_, _, rfl⟩
          · intro ra RW hR hk hd K hK
            have y0 := hCa.out RW hR
            have y1 := hCb.out RW hR
            obtain ⟨v83, e83, g83, f83⟩ := hd 22 83 (by kernel_rfl) rfl
            have F83 := Lib.hid f83
            clear f83
            obtain ⟨v81, e81, g81, f81⟩ := hd 20 81 (by kernel_rfl) rfl
            have f81 : v81 = .bool true := f81
            subst f81
            clear hk hd
            have HR := Lib.hid hR
            clear hR
            go_simp
            obtain ⟨A8, c8, rfl⟩ := F83.out
            go_simp
            exact hK _ _ (Below.refl _ _) rfl
          · intro ra RW hR hk hd K hK
            have y0 := hCa.out RW hR
            have y1 := hCb.out RW hR
            obtain ⟨v84, e84, g84, f84⟩ := hd 23 84 (by kernel_rfl) rfl
            have f84 : v84 = .int .i64 0 := f84
            subst f84
            obtain ⟨v81, e81, g81, f81⟩ := hd 20 81 (by kernel_rfl) rfl
            have f81 : v81 = .bool true := f81
            subst f81
            clear hk hd
            have HR := Lib.hid hR
            clear hR
            go_simp
            exact hK _ _ (Below.refl _ _) rfl
          · intro ra RW hR hk hd K hK
            have y0 := hCa.out RW hR
            have y1 := hCb.out RW hR
            obtain ⟨v81, e81, g81, f81⟩ := hd 20 81 (by kernel_rfl) rfl
            have f81 : v81 = .bool true := f81
            subst f81
            obtain ⟨v85, e85, g85, f85⟩ := hd 24 85 (by kernel_rfl) rfl
            have f85 : v85 = .bool true := f85
            subst f85
            clear hk hd
            have HR := Lib.hid hR
            clear hR
            go_simp
            exact hK _ _ (Below.refl _ _) rfl
          · intro ra RW hR hk hd K hK
            have y0 := hCa.out RW hR
            have y1 := hCb.out RW hR
            obtain ⟨v86, e86, g86, f86⟩ := hd 25 86 (by kernel_rfl) rfl
            have f86 : v86 = .bool true := f86
            subst f86
            clear hk hd
            have HR := Lib.hid hR
            clear hR
            go_simp
            exact hK _ _ (Below.refl _ _) rfl
          · intro ra RW hR hk hd K hK
            have y0 := hCa.out RW hR
            have y1 := hCb.out RW hR
            obtain ⟨e5, g5⟩ := hk 5 (.pointer (some ⟨lp, 0, none⟩)) (by kernel_rfl) rfl
            obtain ⟨v87, e87, g87, f87⟩ := hd 26 87 (by kernel_rfl) rfl
            have f87 : v87 = .bool true := f87
            subst f87
            clear hk hd
            have HR := Lib.hid hR
            clear hR
            go_simp
            exact hK _ _ (Below.refl _ _) rfl
          · intro ra RW hR hk hd K hK
            have y0 := hCa.out RW hR
            have y1 := hCb.out RW hR
            obtain ⟨v88, e88, g88, f88⟩ := hd 27 88 (by kernel_rfl) rfl
            have f88 : v88 = .pointer (some ⟨lp, 0, none⟩) := f88
            subst f88
            obtain ⟨v87, e87, g87, f87⟩ := hd 26 87 (by kernel_rfl) rfl
            have f87 : v87 = .bool true := f87
            subst f87
            clear hk hd
            have HR := Lib.hid hR
            clear hR
            go_simp
            refine (hRu.out _ HR.out).mono ?_
            rintro e w2 ⟨rfl, hb⟩
            exact hK _ _ hb rfl
          · intro ra RW hR hk hd K hK
            have y0 := hCa.out RW hR
            have y1 := hCb.out RW hR
            obtain ⟨v89, e89, g89, f89⟩ := hd 28 89 (by kernel_rfl) rfl
            have f89 : v89 = .int .i64 0 := f89
            subst f89
            obtain ⟨v87, e87, g87, f87⟩ := hd 26 87 (by kernel_rfl) rfl
            have f87 : v87 = .bool true := f87
            subst f87
            clear hk hd
            have HR := Lib.hid hR
            clear hR
            go_simp
            exact hK _ _ (Below.refl _ _) rfl
          · intro ra RW hR hk hd K hK
            have y0 := hCa.out RW hR
            have y1 := hCb.out RW hR
            obtain ⟨v87, e87, g87, f87⟩ := hd 26 87 (by kernel_rfl) rfl
            have f87 : v87 = .bool true := f87
            subst f87
            obtain ⟨v90, e90, g90, f90⟩ := hd 29 90 (by kernel_rfl) rfl
            have f90 : v90 = .bool true := f90
            subst f90
            clear hk hd
            have HR := Lib.hid hR
            clear hR
            go_simp
            exact hK _ _ (Below.refl _ _) rfl
          · intro ra RW hR hk hd K hK
            have y0 := hCa.out RW hR
            have y1 := hCb.out RW hR
            obtain ⟨v91, e91, g91, f91⟩ := hd 30 91 (by kernel_rfl) rfl
            have f91 : v91 = .bool true := f91
            subst f91
            clear hk hd
            have HR := Lib.hid hR
            clear hR
            go_simp
            exact hK _ _ (Below.refl _ _) rfl
        intro vs RW hR hF
        have q0 : vs 0 = .int .i64 (i : Int) := hF 0 (by decide)
        have q1 : vs 1 = .int .i64 (i : Int) := hF 1 (by decide)
        have q2 : vs 2 = .bool true := hF 2 (by decide)
        have q3 : vs 3 = .bool true := hF 3 (by decide)
        have q4 : vs 4 = .pointer (some ⟨lp, 0, none⟩) := hF 4 (by decide)
        have q5 : vs 5 = .int .i64 (i : Int) := hF 5 (by decide)
        have q6 : vs 6 = .int .i64 (i : Int) := hF 6 (by decide)
        have q7 : vs 7 = .bool true := hF 7 (by decide)
        have q8 : vs 8 = .bool true := hF 8 (by decide)
        have q9 : vs 9 = .bool true := hF 9 (by decide)
        have q10 : vs 10 = .pointer (some ⟨sp, 0, none⟩) := hF 10 (by decide)
        have q11 : vs 11 = .pointer (some ⟨sp, 0, none⟩) := hF 11 (by decide)
        have q12 : vs 12 = .pointer (some ⟨sp, 1, none⟩) := hF 12 (by decide)
        have q13 : vs 13 = .slice Ga n ca := hF 13 (by decide)
        have q14 : vs 14 = .pointer (some ⟨rp, 0, none⟩) := hF 14 (by decide)
        have q15 : vs 15 = .pointer (some ⟨rp, 0, none⟩) := hF 15 (by decide)
        have q16 : vs 16 = .pointer (some ⟨rp, 1, none⟩) := hF 16 (by decide)
        have q17 : vs 17 = .slice Gb n cb := hF 17 (by decide)
        have q18 : vs 18 = .bool true := hF 18 (by decide)
        have q19 : vs 19 = .bool true := hF 19 (by decide)
        have q20 : vs 20 = .bool true := hF 20 (by decide)
        have q21 : vs 21 = .pointer (some ⟨lp, 0, none⟩) := hF 21 (by decide)
        have F83 := Lib.hid (hF 22 (by decide))
        have q23 : vs 23 = .int .i64 0 := hF 23 (by decide)
        have q24 : vs 24 = .bool true := hF 24 (by decide)
        have q25 : vs 25 = .bool true := hF 25 (by decide)
        have q26 : vs 26 = .bool true := hF 26 (by decide)
        have q27 : vs 27 = .pointer (some ⟨lp, 0, none⟩) := hF 27 (by decide)
        have q28 : vs 28 = .int .i64 0 := hF 28 (by decide)
        have q29 : vs 29 = .bool true := hF 29 (by decide)
        have q30 : vs 30 = .bool true := hF 30 (by decide)
        have q31 : vs 31 = .bool true := hF 31 (by decide)
        simp only [setAll, List.setIfInBounds_toArray, List.set_cons_zero, List.set_cons_succ, q0, q1, q2, q3, q4, q5, q6, q7, q8, q9, q10, q11, q12, q13, q14, q15, q16, q17, q18, q19, q20, q21, q23, q24, q25, q26, q27, q28, q29, q30, q31]
        clear hF q0 q1 q2 q3 q4 q5 q6 q7 q8 q9 q10 q11 q12 q13 q14 q15 q16 q17 q18 q19 q20 q21 q23 q24 q25 q26 q27 q28 q29 q30 q31
        generalize vs 22 = v83 at *
        clear vs
        go_wp2_with fail
        go_ret
        exact ⟨rfl, below_trans HB6.out.drew hR⟩
      · have hof : ofO (some x) = (x : Int) := rfl
        rw [hof] at HPI
        have hx0 : ¬ (x : Int) < 0 := by omega
        go_wp2_with fail
        refine HPI.out.mono ?_
        rintro e6 w6 ⟨rfl, hr6, hO6⟩
        have HA6 := Lib.hid (HA.out.frame hO6 (fun q hq hh => HD.out q (.inl hq) hh) (fun q hq hh => HD.out q (.inr hq) hh) (fun q hq hh => by have := HRR.out.sB q hh; omega))
        have HB6 : Hid (Below w.heap.size w w6) := HB.out.trans (hO6.below HB.out.size (fun q hh => HRR.out.sB q hh))
        have HR6 := Lib.hid hr6
        clear hr6 hO6
        have hj2 := HRN2.out x rfl
        go_wp2_with fail
        go_roundw
        case rel => exact ⟨j + 1, hj2, by go_num, by go_num, HNX.out (by simp), by rw [HN1.out]; exact HR6.out, HA6.out, HB6.out⟩
        case measure => simp [intOf]; omega
    · have j1 : ¬ (j : Int) < (np : Int) := by omega
      have hpe : (j : Int) - (np : Int) = p := by rw [HPK.out, if_neg hlt]
      rcases o with _ | x
      · have hof : ofO none = -1 := rfl
        rw [hof] at HPI
        go_wp2_with fail
        refine HPI.out.mono ?_
        rintro e6 w6 ⟨rfl, hr6, hO6⟩
        have HA6 := Lib.hid (HA.out.frame hO6 (fun q hq hh => HD.out q (.inl hq) hh) (fun q hq hh => HD.out q (.inr hq) hh) (fun q hq hh => by have := HRR.out.sB q hh; omega))
        have HB6 : Hid (Below w.heap.size w w6) := HB.out.trans (hO6.below HB.out.size (fun q hh => HRR.out.sB q hh))
        have HR6 : Hid (StA w6 w.heap.size (fun k => k = w4.heap.size ∨ k = w4.heap.size + 1) (w4.heap.size + 1) J n cj (.slice (some ⟨w4.heap.size, 0, none⟩) n n) js (runTk js ps n (List.replicate n 0) j)) := hr6
        clear hr6 hO6
        obtain ⟨rfl, hl0⟩ := HSX.out (by simp)
        have HL0 := Lib.hid hl0
        clear hl0
        have hsm : Hid (Sm js (runTk js ps n (List.replicate n 0) i)) := HRI.out.sm HS.out HJL.out
        obtain ⟨Ga, ca, rfl, -, -⟩ := HA6.out.sa.ok.len_
        have BD := fun (W : World) (hW : Below w6.drew.heap.size w6.drew W) => (Below.refl w6.heap.size w6).drew.trans hW
        have hCa : Hid (∀ W, Below w6.drew.heap.size w6.drew W → W.cell? ⟨sp, 1, none⟩ = some (.slice Ga n ca)) := fun W hW => (HA6.out.below (BD W hW)).sa.c1
        obtain ⟨rp, hrp⟩ : ∃ rp, w4.heap.size + 1 = rp := ⟨_, rfl⟩
        obtain ⟨Gb, hGb⟩ : ∃ G : Option Addr, some ⟨w4.heap.size, 0, none⟩ = G := ⟨_, rfl⟩
        obtain ⟨cb, hcb⟩ : ∃ c, n = c := ⟨_, rfl⟩
        have hCb : Hid (∀ W, Below w6.drew.heap.size w6.drew W → W.cell? ⟨rp, 1, none⟩ = some (.slice Gb n cb)) := fun W hW => by
          have := (HR6.out.below (BD W hW)).c1
          rw [← hrp, ← hGb, ← hcb]; exact this
        have hI : Hid (∀ W, Below w6.drew.heap.size w6.drew W → Calls Try.prog 12 #[.slice Ga n ca, .slice Gb n cb] W fun e w' => e = .returned (.bool true) ∧ ∃ q, w' = W.drewN q) := fun W hW => by
          rw [← hGb, ← hcb]
          exact ints_same Ga _ n ca n (runTk js ps n (List.replicate n 0) i) W _ _ (HA6.out.below (BD W hW)).sa.ok.rd (HR6.out.below (BD W hW)).ok.rd (by omega)
        have hSt : Hid (∀ W, Below w6.drew.heap.size w6.drew W → Calls Try.prog 16 #[.pointer (some ⟨lp, 0, none⟩)] W fun e w' => e = .returned (.int .i64 (i : Int)) ∧ W = w') := fun W hW => by
          have := lSteps_any (HA6.out.below (BD W hW))
          rw [HTN.out, show ([] : List Nat).length + i = i from Nat.zero_add i] at this
          exact this
        have hRd : Hid (∀ W, Below w6.drew.heap.size w6.drew W → Calls Try.prog 10 #[.pointer (some ⟨lp, 0, none⟩)] W fun e w' => ∃ v, e = .returned v ∧ Own w' 3 1 v 0 ((listP js (runTk js ps n (List.replicate n 0) i) n).map nV) ∧ Below W.heap.size W w' ∧ ∀ k, v.ownBlock = some k → W.heap.size ≤ k) := fun W hW => by
          have := lReady_any (HA6.out.below (BD W hW)) hsm.out (by omega)
          rw [HL0.out] at this
          exact this
        have hRu : Hid (∀ W, Below w6.drew.heap.size w6.drew W → Calls Try.prog 14 #[.pointer (some ⟨lp, 0, none⟩), .slice none 0 0] W fun e w' => e = .returned (.int .i64 0) ∧ Below W.heap.size W w') := fun W hW => lRun_none (HA6.out.below (BD W hW)) hsm.out (by omega) HL0.out
        rw [hrp]
        clear hrp hGb hcb BD
        go_wp2_with fail
        refine region_rows (by kernel_rfl) (fun W W' => Below W.heap.size W W')
          [.val (.int .i64 (i : Int)),
           .val (.int .i64 (i : Int)),
           .val (.bool true),
           .val (.bool true),
           .val (.pointer (some ⟨lp, 0, none⟩)),
           .val (.int .i64 (i : Int)),
           .val (.int .i64 (i : Int)),
           .val (.bool true),
           .val (.bool true),
           .val (.bool true),
           .val (.pointer (some ⟨sp, 0, none⟩)),
           .val (.pointer (some ⟨sp, 0, none⟩)),
           .val (.pointer (some ⟨sp, 1, none⟩)),
           .val (.slice Ga n ca),
           .val (.pointer (some ⟨rp, 0, none⟩)),
           .val (.pointer (some ⟨rp, 0, none⟩)),
           .val (.pointer (some ⟨rp, 1, none⟩)),
           .val (.slice Gb n cb),
           .val (.bool true),
           .val (.bool true),
           .val (.bool true),
           .val (.pointer (some ⟨lp, 0, none⟩)),
           ⟨fun v _ => ∃ A c, v = .slice A 0 c, fun _ _ _ h _ => h⟩,
           .val (.int .i64 0),
           .val (.bool true),
           .val (.bool true),
           .val (.bool true),
           .val (.pointer (some ⟨lp, 0, none⟩)),
           .val (.int .i64 0),
           .val (.bool true),
           .val (.bool true),
           .val (.bool true)]
          (fun W => Below.refl _ W) (fun _ _ _ h k => below_trans h k) (by kernel_rfl) ?_ ?_
        · refine ⟨?_, ?_, ?_, ?_, ?_, ?_, ?_, ?_, ?_, ?_, ?_, ?_, ?_, ?_, ?_, ?_, ?_, ?_, ?_, ?_, ?_, ?_, ?_, ?_, ?_, ?_, ?_, ?_, ?_, ?_, ?_, ?_, trivial⟩
          · intro ra RW hR hk hd K hK
            have y0 := hCa.out RW hR
            have y1 := hCb.out RW hR
            obtain ⟨e7, g7⟩ := hk 7 (.int .i64 (i : Int)) (by kernel_rfl) rfl
            clear hk hd
            have HR := Lib.hid hR
            clear hR
            go_simp
            exact hK _ _ (Below.refl _ _) rfl
          · intro ra RW hR hk hd K hK
            have y0 := hCa.out RW hR
            have y1 := hCb.out RW hR
            obtain ⟨e9, g9⟩ := hk 9 (.int .i64 (i : Int)) (by kernel_rfl) rfl
            clear hk hd
            have HR := Lib.hid hR
            clear hR
            go_simp
            exact hK _ _ (Below.refl _ _) rfl
          · intro ra RW hR hk hd K hK
            have y0 := hCa.out RW hR
            have y1 := hCb.out RW hR
            obtain ⟨v61, e61, g61, f61⟩ := hd 0 61 (by kernel_rfl) rfl
            have f61 : v61 = .int .i64 (i : Int) := f61
            subst f61
            obtain ⟨v62, e62, g62, f62⟩ := hd 1 62 (by kernel_rfl) rfl
            have f62 : v62 = .int .i64 (i : Int) := f62
            subst f62
            clear hk hd
            have HR := Lib.hid hR
            clear hR
            go_simp
            exact hK _ _ (Below.refl _ _) rfl
          · intro ra RW hR hk hd K hK
            have y0 := hCa.out RW hR
            have y1 := hCb.out RW hR
            obtain ⟨v63, e63, g63, f63⟩ := hd 2 63 (by kernel_rfl) rfl
            have f63 : v63 = .bool true := f63
            subst f63
            clear hk hd
            have HR := Lib.hid hR
            clear hR
            go_simp
            exact hK _ _ (Below.refl _ _) rfl
          · intro ra RW hR hk hd K hK
            have y0 := hCa.out RW hR
            have y1 := hCb.out RW hR
            obtain ⟨e5, g5⟩ := hk 5 (.pointer (some ⟨lp, 0, none⟩)) (by kernel_rfl) rfl
            obtain ⟨v64, e64, g64, f64⟩ := hd 3 64 (by kernel_rfl) rfl
            have f64 : v64 = .bool true := f64
            subst f64
            clear hk hd
            have HR := Lib.hid hR
            clear hR
            go_simp
            exact hK _ _ (Below.refl _ _) rfl
          · intro ra RW hR hk hd K hK
            have y0 := hCa.out RW hR
            have y1 := hCb.out RW hR
            obtain ⟨v65, e65, g65, f65⟩ := hd 4 65 (by kernel_rfl) rfl
            have f65 : v65 = .pointer (some ⟨lp, 0, none⟩) := f65
            subst f65
            obtain ⟨v64, e64, g64, f64⟩ := hd 3 64 (by kernel_rfl) rfl
            have f64 : v64 = .bool true := f64
            subst f64
            clear hk hd
            have HR := Lib.hid hR
            clear hR
            go_simp
            refine (hSt.out _ HR.out).mono ?_
            rintro e w2 ⟨rfl, rfl⟩
            exact hK _ _ (Below.refl _ _) rfl
          · intro ra RW hR hk hd K hK
            have y0 := hCa.out RW hR
            have y1 := hCb.out RW hR
            obtain ⟨e7, g7⟩ := hk 7 (.int .i64 (i : Int)) (by kernel_rfl) rfl
            obtain ⟨v64, e64, g64, f64⟩ := hd 3 64 (by kernel_rfl) rfl
            have f64 : v64 = .bool true := f64
            subst f64
            clear hk hd
            have HR := Lib.hid hR
            clear hR
            go_simp
            exact hK _ _ (Below.refl _ _) rfl
          · intro ra RW hR hk hd K hK
            have y0 := hCa.out RW hR
            have y1 := hCb.out RW hR
            obtain ⟨v66, e66, g66, f66⟩ := hd 5 66 (by kernel_rfl) rfl
            have f66 : v66 = .int .i64 (i : Int) := f66
            subst f66
            obtain ⟨v67, e67, g67, f67⟩ := hd 6 67 (by kernel_rfl) rfl
            have f67 : v67 = .int .i64 (i : Int) := f67
            subst f67
            obtain ⟨v64, e64, g64, f64⟩ := hd 3 64 (by kernel_rfl) rfl
            have f64 : v64 = .bool true := f64
            subst f64
            clear hk hd
            have HR := Lib.hid hR
            clear hR
            go_simp
            exact hK _ _ (Below.refl _ _) rfl
          · intro ra RW hR hk hd K hK
            have y0 := hCa.out RW hR
            have y1 := hCb.out RW hR
            obtain ⟨v64, e64, g64, f64⟩ := hd 3 64 (by kernel_rfl) rfl
            have f64 : v64 = .bool true := f64
            subst f64
            obtain ⟨v68, e68, g68, f68⟩ := hd 7 68 (by kernel_rfl) rfl
            have f68 : v68 = .bool true := f68
            subst f68
            clear hk hd
            have HR := Lib.hid hR
            clear hR
            go_simp
            exact hK _ _ (Below.refl _ _) rfl
          · intro ra RW hR hk hd K hK
            have y0 := hCa.out RW hR
            have y1 := hCb.out RW hR
            obtain ⟨v69, e69, g69, f69⟩ := hd 8 69 (by kernel_rfl) rfl
            have f69 : v69 = .bool true := f69
            subst f69
            clear hk hd
            have HR := Lib.hid hR
            clear hR
            go_simp
            exact hK _ _ (Below.refl _ _) rfl
          · intro ra RW hR hk hd K hK
            have y0 := hCa.out RW hR
            have y1 := hCb.out RW hR
            obtain ⟨e6, g6⟩ := hk 6 (.pointer (some ⟨sp, 0, none⟩)) (by kernel_rfl) rfl
            obtain ⟨v70, e70, g70, f70⟩ := hd 9 70 (by kernel_rfl) rfl
            have f70 : v70 = .bool true := f70
            subst f70
            clear hk hd
            have HR := Lib.hid hR
            clear hR
            go_simp
            exact hK _ _ (Below.refl _ _) rfl
          · intro ra RW hR hk hd K hK
            have y0 := hCa.out RW hR
            have y1 := hCb.out RW hR
            obtain ⟨v71, e71, g71, f71⟩ := hd 10 71 (by kernel_rfl) rfl
            have f71 : v71 = .pointer (some ⟨sp, 0, none⟩) := f71
            subst f71
            obtain ⟨v70, e70, g70, f70⟩ := hd 9 70 (by kernel_rfl) rfl
            have f70 : v70 = .bool true := f70
            subst f70
            clear hk hd
            have HR := Lib.hid hR
            clear hR
            go_simp
            exact hK _ _ (Below.refl _ _) rfl
          · intro ra RW hR hk hd K hK
            have y0 := hCa.out RW hR
            have y1 := hCb.out RW hR
            obtain ⟨v72, e72, g72, f72⟩ := hd 11 72 (by kernel_rfl) rfl
            have f72 : v72 = .pointer (some ⟨sp, 0, none⟩) := f72
            subst f72
            obtain ⟨v70, e70, g70, f70⟩ := hd 9 70 (by kernel_rfl) rfl
            have f70 : v70 = .bool true := f70
            subst f70
            clear hk hd
            have HR := Lib.hid hR
            clear hR
            go_simp
            exact hK _ _ (Below.refl _ _) rfl
          · intro ra RW hR hk hd K hK
            have y0 := hCa.out RW hR
            have y1 := hCb.out RW hR
            obtain ⟨v73, e73, g73, f73⟩ := hd 12 73 (by kernel_rfl) rfl
            have f73 : v73 = .pointer (some ⟨sp, 1, none⟩) := f73
            subst f73
            obtain ⟨v70, e70, g70, f70⟩ := hd 9 70 (by kernel_rfl) rfl
            have f70 : v70 = .bool true := f70
            subst f70
            clear hk hd
            have HR := Lib.hid hR
            clear hR
            go_simp
            exact hK _ _ (Below.refl _ _) rfl
          · intro ra RW hR hk hd K hK
            have y0 := hCa.out RW hR
            have y1 := hCb.out RW hR
            obtain ⟨e8, g8⟩ := hk 8 (.pointer (some ⟨rp, 0, none⟩)) (by kernel_rfl) rfl
            obtain ⟨v70, e70, g70, f70⟩ := hd 9 70 (by kernel_rfl) rfl
            have f70 : v70 = .bool true := f70
            subst f70
            clear hk hd
            have HR := Lib.hid hR
            clear hR
            go_simp
            exact hK _ _ (Below.refl _ _) rfl
          · intro ra RW hR hk hd K hK
            have y0 := hCa.out RW hR
            have y1 := hCb.out RW hR
            obtain ⟨v75, e75, g75, f75⟩ := hd 14 75 (by kernel_rfl) rfl
            have f75 : v75 = .pointer (some ⟨rp, 0, none⟩) := f75
            subst f75
            obtain ⟨v70, e70, g70, f70⟩ := hd 9 70 (by kernel_rfl) rfl
            have f70 : v70 = .bool true := f70
            subst f70
            clear hk hd
            have HR := Lib.hid hR
            clear hR
            go_simp
            exact hK _ _ (Below.refl _ _) rfl
          · intro ra RW hR hk hd K hK
            have y0 := hCa.out RW hR
            have y1 := hCb.out RW hR
            obtain ⟨v76, e76, g76, f76⟩ := hd 15 76 (by kernel_rfl) rfl
            have f76 : v76 = .pointer (some ⟨rp, 0, none⟩) := f76
            subst f76
            obtain ⟨v70, e70, g70, f70⟩ := hd 9 70 (by kernel_rfl) rfl
            have f70 : v70 = .bool true := f70
            subst f70
            clear hk hd
            have HR := Lib.hid hR
            clear hR
            go_simp
            exact hK _ _ (Below.refl _ _) rfl
          · intro ra RW hR hk hd K hK
            have y0 := hCa.out RW hR
            have y1 := hCb.out RW hR
            obtain ⟨v77, e77, g77, f77⟩ := hd 16 77 (by kernel_rfl) rfl
            have f77 : v77 = .pointer (some ⟨rp, 1, none⟩) := f77
            subst f77
            obtain ⟨v70, e70, g70, f70⟩ := hd 9 70 (by kernel_rfl) rfl
            have f70 : v70 = .bool true := f70
            subst f70
            clear hk hd
            have HR := Lib.hid hR
            clear hR
            go_simp
            exact hK _ _ (Below.refl _ _) rfl
          · intro ra RW hR hk hd K hK
            have y0 := hCa.out RW hR
            have y1 := hCb.out RW hR
            obtain ⟨v74, e74, g74, f74⟩ := hd 13 74 (by kernel_rfl) rfl
            have f74 : v74 = .slice Ga n ca := f74
            subst f74
            obtain ⟨v78, e78, g78, f78⟩ := hd 17 78 (by kernel_rfl) rfl
            have f78 : v78 = .slice Gb n cb := f78
            subst f78
            obtain ⟨v70, e70, g70, f70⟩ := hd 9 70 (by kernel_rfl) rfl
            have f70 : v70 = .bool true := f70
            subst f70
            clear hk hd
            have HR := Lib.hid hR
            clear hR
            go_simp
            refine (hI.out _ HR.out).mono ?_
            rintro e w2 ⟨rfl, q, rfl⟩
            exact hK _ _ (below_drewN (Below.refl _ _) q) rfl
          · intro ra RW hR hk hd K hK
            have y0 := hCa.out RW hR
            have y1 := hCb.out RW hR
            obtain ⟨v70, e70, g70, f70⟩ := hd 9 70 (by kernel_rfl) rfl
            have f70 : v70 = .bool true := f70
            subst f70
            obtain ⟨v79, e79, g79, f79⟩ := hd 18 79 (by kernel_rfl) rfl
            have f79 : v79 = .bool true := f79
            subst f79
            clear hk hd
            have HR := Lib.hid hR
            clear hR
            go_simp
            exact hK _ _ (Below.refl _ _) rfl
          · intro ra RW hR hk hd K hK
            have y0 := hCa.out RW hR
            have y1 := hCb.out RW hR
            obtain ⟨v80, e80, g80, f80⟩ := hd 19 80 (by kernel_rfl) rfl
            have f80 : v80 = .bool true := f80
            subst f80
            clear hk hd
            have HR := Lib.hid hR
            clear hR
            go_simp
            exact hK _ _ (Below.refl _ _) rfl
          · intro ra RW hR hk hd K hK
            have y0 := hCa.out RW hR
            have y1 := hCb.out RW hR
            obtain ⟨e5, g5⟩ := hk 5 (.pointer (some ⟨lp, 0, none⟩)) (by kernel_rfl) rfl
            obtain ⟨v81, e81, g81, f81⟩ := hd 20 81 (by kernel_rfl) rfl
            have f81 : v81 = .bool true := f81
            subst f81
            clear hk hd
            have HR := Lib.hid hR
            clear hR
            go_simp
            exact hK _ _ (Below.refl _ _) rfl
          · intro ra RW hR hk hd K hK
            have y0 := hCa.out RW hR
            have y1 := hCb.out RW hR
            obtain ⟨v82, e82, g82, f82⟩ := hd 21 82 (by kernel_rfl) rfl
            have f82 : v82 = .pointer (some ⟨lp, 0, none⟩) := f82
            subst f82
            obtain ⟨v81, e81, g81, f81⟩ := hd 20 81 (by kernel_rfl) rfl
            have f81 : v81 = .bool true := f81
            subst f81
            clear hk hd
            have HR := Lib.hid hR
            clear hR
            go_simp
            refine (hRd.out _ HR.out).mono ?_
            rintro e w2 ⟨v, rfl, hv, hb, -⟩
            obtain ⟨A8, c8, rfl, -, -⟩ := hv.len_
            exact hK _ _ hb ⟨_, _, rfl⟩
          · intro ra RW hR hk hd K hK
            have y0 := hCa.out RW hR
            have y1 := hCb.out RW hR
            obtain ⟨v83, e83, g83, f83⟩ := hd 22 83 (by kernel_rfl) rfl
            have F83 := Lib.hid f83
            clear f83
            obtain ⟨v81, e81, g81, f81⟩ := hd 20 81 (by kernel_rfl) rfl
            have f81 : v81 = .bool true := f81
            subst f81
            clear hk hd
            have HR := Lib.hid hR
            clear hR
            go_simp
            obtain ⟨A8, c8, rfl⟩ := F83.out
            go_simp
            exact hK _ _ (Below.refl _ _) rfl
          · intro ra RW hR hk hd K hK
            have y0 := hCa.out RW hR
            have y1 := hCb.out RW hR
            obtain ⟨v84, e84, g84, f84⟩ := hd 23 84 (by kernel_rfl) rfl
            have f84 : v84 = .int .i64 0 := f84
            subst f84
            obtain ⟨v81, e81, g81, f81⟩ := hd 20 81 (by kernel_rfl) rfl
            have f81 : v81 = .bool true := f81
            subst f81
            clear hk hd
            have HR := Lib.hid hR
            clear hR
            go_simp
            exact hK _ _ (Below.refl _ _) rfl
          · intro ra RW hR hk hd K hK
            have y0 := hCa.out RW hR
            have y1 := hCb.out RW hR
            obtain ⟨v81, e81, g81, f81⟩ := hd 20 81 (by kernel_rfl) rfl
            have f81 : v81 = .bool true := f81
            subst f81
            obtain ⟨v85, e85, g85, f85⟩ := hd 24 85 (by kernel_rfl) rfl
            have f85 : v85 = .bool true := f85
            subst f85
            clear hk hd
            have HR := Lib.hid hR
            clear hR
            go_simp
            exact hK _ _ (Below.refl _ _) rfl
          · intro ra RW hR hk hd K hK
            have y0 := hCa.out RW hR
            have y1 := hCb.out RW hR
            obtain ⟨v86, e86, g86, f86⟩ := hd 25 86 (by kernel_rfl) rfl
            have f86 : v86 = .bool true := f86
            subst f86
            clear hk hd
            have HR := Lib.hid hR
            clear hR
            go_simp
            exact hK _ _ (Below.refl _ _) rfl
          · intro ra RW hR hk hd K hK
            have y0 := hCa.out RW hR
            have y1 := hCb.out RW hR
            obtain ⟨e5, g5⟩ := hk 5 (.pointer (some ⟨lp, 0, none⟩)) (by kernel_rfl) rfl
            obtain ⟨v87, e87, g87, f87⟩ := hd 26 87 (by kernel_rfl) rfl
            have f87 : v87 = .bool true := f87
            subst f87
            clear hk hd
            have HR := Lib.hid hR
            clear hR
            go_simp
            exact hK _ _ (Below.refl _ _) rfl
          · intro ra RW hR hk hd K hK
            have y0 := hCa.out RW hR
            have y1 := hCb.out RW hR
            obtain ⟨v88, e88, g88, f88⟩ := hd 27 88 (by kernel_rfl) rfl
            have f88 : v88 = .pointer (some ⟨lp, 0, none⟩) := f88
            subst f88
            obtain ⟨v87, e87, g87, f87⟩ := hd 26 87 (by kernel_rfl) rfl
            have f87 : v87 = .bool true := f87
            subst f87
            clear hk hd
            have HR := Lib.hid hR
            clear hR
            go_simp
            refine (hRu.out _ HR.out).mono ?_
            rintro e w2 ⟨rfl, hb⟩
            exact hK _ _ hb rfl
          · intro ra RW hR hk hd K hK
            have y0 := hCa.out RW hR
            have y1 := hCb.out RW hR
            obtain ⟨v89, e89, g89, f89⟩ := hd 28 89 (by kernel_rfl) rfl
            have f89 : v89 = .int .i64 0 := f89
            subst f89
            obtain ⟨v87, e87, g87, f87⟩ := hd 26 87 (by kernel_rfl) rfl
            have f87 : v87 = .bool true := f87
            subst f87
            clear hk hd
            have HR := Lib.hid hR
            clear hR
            go_simp
            exact hK _ _ (Below.refl _ _) rfl
          · intro ra RW hR hk hd K hK
            have y0 := hCa.out RW hR
            have y1 := hCb.out RW hR
            obtain ⟨v87, e87, g87, f87⟩ := hd 26 87 (by kernel_rfl) rfl
            have f87 : v87 = .bool true := f87
            subst f87
            obtain ⟨v90, e90, g90, f90⟩ := hd 29 90 (by kernel_rfl) rfl
            have f90 : v90 = .bool true := f90
            subst f90
            clear hk hd
            have HR := Lib.hid hR
            clear hR
            go_simp
            exact hK _ _ (Below.refl _ _) rfl
          · intro ra RW hR hk hd K hK
            have y0 := hCa.out RW hR
            have y1 := hCb.out RW hR
            obtain ⟨v91, e91, g91, f91⟩ := hd 30 91 (by kernel_rfl) rfl
            have f91 : v91 = .bool true := f91
            subst f91
            clear hk hd
            have HR := Lib.hid hR
            clear hR
            go_simp
            exact hK _ _ (Below.refl _ _) rfl
        intro vs RW hR hF
        have q0 : vs 0 = .int .i64 (i : Int) := hF 0 (by decide)
        have q1 : vs 1 = .int .i64 (i : Int) := hF 1 (by decide)
        have q2 : vs 2 = .bool true := hF 2 (by decide)
        have q3 : vs 3 = .bool true := hF 3 (by decide)
        have q4 : vs 4 = .pointer (some ⟨lp, 0, none⟩) := hF 4 (by decide)
        have q5 : vs 5 = .int .i64 (i : Int) := hF 5 (by decide)
        have q6 : vs 6 = .int .i64 (i : Int) := hF 6 (by decide)
        have q7 : vs 7 = .bool true := hF 7 (by decide)
        have q8 : vs 8 = .bool true := hF 8 (by decide)
        have q9 : vs 9 = .bool true := hF 9 (by decide)
        have q10 : vs 10 = .pointer (some ⟨sp, 0, none⟩) := hF 10 (by decide)
        have q11 : vs 11 = .pointer (some ⟨sp, 0, none⟩) := hF 11 (by decide)
        have q12 : vs 12 = .pointer (some ⟨sp, 1, none⟩) := hF 12 (by decide)
        have q13 : vs 13 = .slice Ga n ca := hF 13 (by decide)
        have q14 : vs 14 = .pointer (some ⟨rp, 0, none⟩) := hF 14 (by decide)
        have q15 : vs 15 = .pointer (some ⟨rp, 0, none⟩) := hF 15 (by decide)
        have q16 : vs 16 = .pointer (some ⟨rp, 1, none⟩) := hF 16 (by decide)
        have q17 : vs 17 = .slice Gb n cb := hF 17 (by decide)
        have q18 : vs 18 = .bool true := hF 18 (by decide)
        have q19 : vs 19 = .bool true := hF 19 (by decide)
        have q20 : vs 20 = .bool true := hF 20 (by decide)
        have q21 : vs 21 = .pointer (some ⟨lp, 0, none⟩) := hF 21 (by decide)
        have F83 := Lib.hid (hF 22 (by decide))
        have q23 : vs 23 = .int .i64 0 := hF 23 (by decide)
        have q24 : vs 24 = .bool true := hF 24 (by decide)
        have q25 : vs 25 = .bool true := hF 25 (by decide)
        have q26 : vs 26 = .bool true := hF 26 (by decide)
        have q27 : vs 27 = .pointer (some ⟨lp, 0, none⟩) := hF 27 (by decide)
        have q28 : vs 28 = .int .i64 0 := hF 28 (by decide)
        have q29 : vs 29 = .bool true := hF 29 (by decide)
        have q30 : vs 30 = .bool true := hF 30 (by decide)
        have q31 : vs 31 = .bool true := hF 31 (by decide)
        simp only [setAll, List.setIfInBounds_toArray, List.set_cons_zero, List.set_cons_succ, q0, q1, q2, q3, q4, q5, q6, q7, q8, q9, q10, q11, q12, q13, q14, q15, q16, q17, q18, q19, q20, q21, q23, q24, q25, q26, q27, q28, q29, q30, q31]
        clear hF q0 q1 q2 q3 q4 q5 q6 q7 q8 q9 q10 q11 q12 q13 q14 q15 q16 q17 q18 q19 q20 q21 q23 q24 q25 q26 q27 q28 q29 q30 q31
        generalize vs 22 = v83 at *
        clear vs
        go_wp2_with fail
        go_ret
        exact ⟨rfl, below_trans HB6.out.drew hR⟩
      · have hof : ofO (some x) = (x : Int) := rfl
        rw [hof] at HPI
        have hx0 : ¬ (x : Int) < 0 := by omega
        go_wp2_with fail
        refine HPI.out.mono ?_
        rintro e6 w6 ⟨rfl, hr6, hO6⟩
        have HA6 := Lib.hid (HA.out.frame hO6 (fun q hq hh => HD.out q (.inl hq) hh) (fun q hq hh => HD.out q (.inr hq) hh) (fun q hq hh => by have := HRR.out.sB q hh; omega))
        have HB6 : Hid (Below w.heap.size w w6) := HB.out.trans (hO6.below HB.out.size (fun q hh => HRR.out.sB q hh))
        have HR6 := Lib.hid hr6
        clear hr6 hO6
        have hj2 := HRN2.out x rfl
        go_wp2_with fail
        go_roundw
        case rel => exact ⟨j + 1, hj2, by go_num, by go_num, HNX.out (by simp), by rw [HN1.out]; exact HR6.out, HA6.out, HB6.out⟩
        case measure => simp [intOf]; omega

set_option maxHeartbeats 2000000 in
theorem runs_any (js : List Jb) (J : Option Addr) (n cj : Nat) (ps : List Int) (P : Option Addr) (np cp : Nat) (w : World) (hJ : Rd w w.heap.size 3 J n (flat3 (jrow js) n)) (hl : js.length = n) (hc : n ≤ cj)
    (hP : Rd w w.heap.size 1 P np (ps.map iV)) (hcp : np ≤ cp) :
    Calls Try.prog 4 #[.slice J n cj, .slice P np cp] w fun e w' => e = .returned (.bool true) ∧ Below w.heap.size w w' := by
  have HJ := Lib.hid hJ
  have HSM := Lib.hid (fun W B h => small_any W B J n cj js h hl hc)
  by_cases hs : smallP js
  · by_cases h1 : np ≤ 60
    · exact runs_small js J n cj ps P np cp w hJ hl hc hP hcp hs h1
    · have i1 : (60 : Int) < (np : Int) := by omega
      rw [decide_eq_true hs] at HSM
      clear hJ hP hs hl
      go_enter Try.func4, Try.ntmps4
      go_wp2_with fail
      refine (awake_any _).mono ?_
      rintro e1 w1 ⟨rfl, hb1⟩
      have HB1 := Lib.hid hb1
      clear hb1
      go_wp2_with fail
      refine (HSM.out w1 w.heap.size (HJ.out.below HB1.out)).mono ?_
      rintro e2 w2 ⟨rfl, rfl⟩
      go_wp2_with fail
      refine (awake_any _).mono ?_
      rintro e3 w3 ⟨rfl, hb3⟩
      have HB3 := Lib.hid (below_trans HB1.out hb3)
      clear hb3
      go_wp2_with fail
      go_ret
      exact ⟨rfl, HB3.out⟩
  · rw [decide_eq_false hs] at HSM
    clear hJ hP hs hl
    go_enter Try.func4, Try.ntmps4
    go_wp2_with fail
    refine (awake_any _).mono ?_
    rintro e1 w1 ⟨rfl, hb1⟩
    have HB1 := Lib.hid hb1
    clear hb1
    go_wp2_with fail
    refine (HSM.out w1 w.heap.size (HJ.out.below HB1.out)).mono ?_
    rintro e2 w2 ⟨rfl, rfl⟩
    go_wp2_with fail
    refine (awake_any _).mono ?_
    rintro e3 w3 ⟨rfl, hb3⟩
    have HB3 := Lib.hid (below_trans HB1.out hb3)
    clear hb3
    go_wp2_with fail
    go_ret
    exact ⟨rfl, HB3.out⟩
end Go.Proofs.Ytamgngmbbbegpaa
