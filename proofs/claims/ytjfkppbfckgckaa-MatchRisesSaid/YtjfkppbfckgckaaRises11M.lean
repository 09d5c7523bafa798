/-
  The law MatchRises returns true; no condition beyond those that each theorem states.
-/
import Derived.Test.YtjfkppbfckgckaaG14
import Derived.Test.YtjfkppbfckgckaaG19
import Derived.Test.YtjfkppbfckgckaaRisePM
import Derived.Deep.CutRange
import Derived.Deep.CutBlock
set_option linter.unusedVariables false
set_option linter.unusedSimpArgs false
namespace Go.Proofs.Ytjfkppbfckgckaa
set_option maxRecDepth 20000
open Go.RowKit Go.Rb
attribute [local irreducible] Go.wpQuiet

theorem hit_cells {t : ByteArray} {w : World} {A : Option Addr} {n c : Nat} {X : List (Nat × Nat)} (h : HsO t w (.slice A n c) X) (hn : X.length = n) {i a e : Nat} (hi : X[i]? = some (a, e)) :
    ∃ b off, A = some ⟨b, off, none⟩ ∧ b < w.heap.size ∧ w.cell? ⟨b, off + i * 2, none⟩ = some (.int .i64 (AtF (decT t) a : Int)) ∧ w.cell? ⟨b, off + i * 2 + 1, none⟩ = some (.int .i64 (AtF (decT t) e : Int)) := by
  have h' := hsO_ln hn h
  obtain ⟨hil, hie⟩ := List.getElem?_eq_some_iff.1 hi
  obtain ⟨b, off, hA, hb, hcell⟩ := h'.rd.2 (by omega)
  have hl : i < (hpos t X).length := by rw [hpos, List.length_map]; exact hil
  obtain ⟨g1, g2⟩ := hcs_get (hpos t X) i hl
  have hp : (hpos t X)[i] = ((AtF (decT t) a : Int), (AtF (decT t) e : Int)) := by simp [hpos, hie]
  rw [hp] at g1 g2
  rw [← hitsC_hcs] at g1 g2
  exact ⟨b, off, hA, hb, (hcell (i * 2) (by omega)).trans g1, by rw [Nat.add_assoc]; exact (hcell (i * 2 + 1) (by omega)).trans g2⟩
/-- From which octet on is searched. -/
def atN (t : ByteArray) : Option (Nat × Nat) → Nat
  | none => 0
  | some (a, e) => if a = e then AtF (decT t) e + 1 else AtF (decT t) e
theorem atN_some (t : ByteArray) (a e : Nat) : atN t (some (a, e)) = if a = e then AtF (decT t) e + 1 else AtF (decT t) e := rfl
theorem longV_some (t : ByteArray) (e : Nat) : longV t (some e) = .tuple #[.int .i64 (AtF (decT t) e : Int), .bool true] := rfl
theorem longV_none (t : ByteArray) : longV t none = .tuple #[.int .i64 0, .bool false] := rfl
def B3 (w w2 w4 wr : World) : Prop := Below w.heap.size w wr ∧ Below w2.heap.size w2 wr ∧ Below w4.heap.size w4 wr
theorem B3.on {w w2 w4 wr wx : World} (h : B3 w w2 w4 wr) (hb : Below wr.heap.size wr wx) : B3 w w2 w4 wx := ⟨below_trans h.1 hb, below_trans h.2.1 hb, below_trans h.2.2 hb⟩
theorem B3.drw {w w2 w4 wr wx : World} (h : B3 w w2 w4 wr) (hb : Drw wr wx) : B3 w w2 w4 wx := ⟨hb.bel h.1, hb.bel h.2.1, hb.bel h.2.2⟩
/-- What is between matches. -/
def GapI (t : ByteArray) (L : Nat → Option Nat) (pv : Option (Nat × Nat)) (z T : Nat) : Prop := ∀ kk : Nat, z ≤ kk → kk < T → ∀ j x, j ≤ (decT t).length → AtF (decT t) j = kk → L j = some x → x = j ∧ ∃ b, pv = some (b, j)
theorem gap_of {t : ByteArray} {L : Nat → Option Nat} {pv : Option (Nat × Nat)} {d T : Nat} (hs : SkipI L pv d) (hT : ∀ j, j ≤ (decT t).length → AtF (decT t) j < T → j < d) (hpv : ∀ a e, pv = some (a, e) → e ≤ (decT t).length) : GapI t L pv (atN t pv) T := by
  intro kk h1 h2 j x hj hat hl
  refine hs j x ?_ (hT j hj (by omega)) hl
  cases pv with
  | none => exact Nat.zero_le _
  | some q =>
    obtain ⟨a, e⟩ := q
    have he := hpv a e rfl
    rw [startI_some]
    rw [atN_some] at h1
    by_cases hae : a = e
    · rw [if_pos hae] at h1 ⊢
      rcases Nat.lt_or_ge e j with h | h
      · exact h
      · have := AtF_le t j e h; omega
    · rw [if_neg hae] at h1 ⊢
      rcases Nat.lt_or_ge j e with h | h
      · have := AtF_lt t j e h he; omega
      · exact h
theorem atN_le {t : ByteArray} {pv : Option (Nat × Nat)} {a : Nat} (h : startI pv ≤ a) (ha : a ≤ (decT t).length) : atN t pv ≤ AtF (decT t) a := by
  cases pv with
  | none => exact Nat.zero_le _
  | some q =>
    obtain ⟨b, e⟩ := q
    rw [startI_some] at h
    rw [atN_some]
    by_cases hae : b = e
    · rw [if_pos hae] at h ⊢
      exact AtF_lt t e a (by omega) ha
    · rw [if_neg hae] at h ⊢
      exact AtF_le t e a h
set_option maxHeartbeats 8000000 in
theorem rises_law (s t : ByteArray) (w : World) : Calls Try.prog 5 #[.string s, .string t] w fun e w' => e = .returned (.bool true) ∧ Below w.heap.size w w' := by
  have HAW := Lib.hid (awake_any w)
  by_cases h60 : 60 < s.size
  · skip
    go_enter Try.func5, Try.ntmps5
    go_wp2_with fail
    refine HAW.out.mono ?_
    rintro e1 w1 ⟨rfl, hb1⟩
    have HB1 := Lib.hid hb1
    have HAW1 := Lib.hid (awake_any w1)
    clear hb1
    go_wp2_with fail
    refine HAW1.out.mono ?_
    rintro e2 w2 ⟨rfl, hb2⟩
    have HB2 := Lib.hid hb2
    clear hb2
    go_wp2_with fail
    go_ret
    exact ⟨rfl, below_trans HB1.out HB2.out⟩
  by_cases h40 : 40 < t.size
  · skip
    go_enter Try.func5, Try.ntmps5
    go_wp2_with fail
    refine HAW.out.mono ?_
    rintro e1 w1 ⟨rfl, hb1⟩
    have HB1 := Lib.hid hb1
    have HAW1 := Lib.hid (awake_any w1)
    clear hb1
    go_wp2_with fail
    refine HAW1.out.mono ?_
    rintro e2 w2 ⟨rfl, hb2⟩
    have HB2 := Lib.hid hb2
    clear hb2
    go_wp2_with fail
    go_ret
    exact ⟨rfl, below_trans HB1.out HB2.out⟩
  have hs60 : s.size ≤ 60 := by omega
  have ht40 : t.size ≤ 40 := by omega
  clear h60 h40
  go_enter Try.func5, Try.ntmps5
  go_wp2_with fail
  refine HAW.out.mono ?_
  rintro e1 w1 ⟨rfl, hb1⟩
  have HB1 := Lib.hid hb1
  have HM := Lib.hid (made2_any s hs60 w1)
  clear hb1 HAW
  go_wp2_with fail
  refine HM.out.mono ?_
  rintro e2 w2 ⟨hb2, rfl | ⟨A, n, c, p, rfl, hn, hn0, hn1, hc, hpr, hok, hset⟩⟩
  · have HB2 := Lib.hid (below_trans HB1.out hb2)
    clear hb2 HM
    go_wp2_with fail
    go_ret
    exact ⟨rfl, HB2.out⟩
  have HB2 := Lib.hid (below_trans HB1.out hb2)
  have HN := Lib.hid hn
  have HP := Lib.hid hpr
  have HOK := Lib.hid hok
  have HSET := Lib.hid hset
  have hs2 := HB2.out.size
  obtain ⟨L, hL⟩ := lastsOf p (rsL t)
  have HLL : Hid (∀ k, k ≤ (decT t).length → IsLast p (rsL t) k (L k)) := fun k hk => hL k (by rw [rsL, List.length_map]; exact hk)
  have hnz : ((n : Int) == 0) = false := by rw [beq_eq_false_iff_ne]; omega
  clear hb2 hn hpr hok hset hL HM
  have HAM := Lib.hid (allM_any HN.out hn0 (by omega) HOK.out HSET.out (by omega : t.size ≤ 60) hc HLL.out w2 (Nat.le_refl _) HP.out)
  have hLE : ∀ k e, k ≤ (decT t).length → L k = some e → k ≤ e ∧ e ≤ (decT t).length := fun k e hk he => by
    have := HLL.out k hk
    rw [he] at this
    exact isLast_le hk this
  have HLE := Lib.hid hLE
  obtain ⟨X, hX⟩ : ∃ X, allP L (decT t).length ((decT t).length + 2) 0 none [] = X := ⟨_, rfl⟩
  have HRI := Lib.hid (rise_all hLE hX)
  rw [hX] at HAM
  have hXl : X.length ≤ (decT t).length + 2 := by rw [← hX]; have := allP_len L (decT t).length ((decT t).length + 2) 0 none []; simpa using this
  have hml := decT_len t
  obtain ⟨m, hm⟩ : ∃ m, (decT t).length = m := ⟨_, rfl⟩
  have HM9 := Lib.hid hm
  have HEND := Lib.hid (decT_end t)
  rw [hm] at hXl hml
  obtain ⟨nl, hnl⟩ : ∃ nl, X.length = nl := ⟨_, rfl⟩
  have HNL := Lib.hid hnl
  rw [hnl] at hXl
  clear hX hLE hm hnl
  go_wp2_with fail
  refine HAM.out.mono ?_
  rintro e4 w4 ⟨v4, rfl, hh4, -, hb4⟩
  obtain ⟨A4, c4, hv4, hc4, -⟩ := Own.len_ hh4
  rw [HNL.out] at hv4 hc4
  subst hv4
  have HH4 := Lib.hid hh4
  have HB4 : Hid (B3 w w2 w4 w4) := ⟨below_trans HB2.out hb4, hb4, Below.refl _ _⟩
  clear hb4 HAM hh4
  go_wp2_with fail
  go_loopw [7, 8] (fun v7 v8 wr => ∃ i z : Nat, v8 = .int .i64 (i : Int) ∧ v7 = .int .i64 (z : Int) ∧ i ≤ nl + 1 ∧ Hid (i ≤ nl → z = atN t (pvI X i)) ∧ Hid (B3 w w2 w4 wr)) (fun _ v8 _ => nl + 1 - (intOf v8).toNat)
  case atStart => exact ⟨0, 0, rfl, rfl, by omega, fun _ => rfl, HB4.out⟩
  case round =>
  obtain ⟨i, z, rfl, rfl, hi, HZ, HB5⟩ := hrel
  obtain ⟨w5, hw5⟩ : ∃ w5, w5 = wr := ⟨_, rfl⟩
  subst hw5
  by_cases hil : i < nl + 1
  · have hz := HZ.out (by omega)
    have HRX := Lib.hid (HRI.out i (by rw [HNL.out]; omega))
    have HPVE : Hid (∀ a e, pvI X i = some (a, e) → e ≤ (decT t).length ∧ 0 < i ∧ X[i - 1]? = some (a, e)) := fun a e h => by
      unfold pvI at h
      by_cases h0 : i = 0
      · rw [if_pos h0] at h; simp at h
      · rw [if_neg h0] at h
        obtain ⟨h1, h2, h3, -, -⟩ := (HRI.out (i - 1) (by rw [HNL.out]; omega)).1 a e h
        exact ⟨(HLE.out a e h2 h3).2, by omega, h⟩
    have hzT : z ≤ t.size + 1 := by
      rw [hz]
      cases hq : pvI X i with
      | none => exact Nat.zero_le _
      | some q =>
        obtain ⟨a, e⟩ := q
        have he := (HPVE.out a e hq).1
        have h1 := AtF_le t e _ he
        have h2 := HEND.out
        rw [atN_some]
        split <;> omega
    have HGE : Hid (GapI t L (pvI X i) z (t.size + 1) ∨ i < nl) := by
      by_cases h : i < nl
      · exact .inr h
      · exact .inl (by rw [hz]; exact gap_of (HRX.out.2 (by rw [HNL.out]; omega)) (fun j hj _ => by omega) fun a e h => (HPVE.out a e h).1)
    have hs5 : w4.heap.size ≤ w5.heap.size := HB5.out.2.2.size
    have HATZ := Lib.hid hz
    clear hz HZ
    go_upto_if 49 with fail
    go_cut [9, 10, 11, 12] from 37 to 168 (fun v9 v10 v11 v12 wx => ∃ T : Nat, v9 = .int .i64 (T : Int) ∧ z ≤ T ∧ T ≤ t.size + 1 ∧ Hid (GapI t L (pvI X i) z T) ∧ Hid (B3 w w2 w4 wx))
    case first =>
      by_cases hin : i < nl
      · obtain ⟨q, hq⟩ : ∃ q, X[i]? = some q := ⟨_, List.getElem?_eq_getElem (by rw [HNL.out]; exact hin)⟩
        obtain ⟨a, e⟩ := q
        obtain ⟨h1, h2, h3, h4, h5⟩ := HRX.out.1 a e hq
        obtain ⟨h6, h7⟩ := HLE.out a e h2 h3
        obtain ⟨hb, ho, rfl, hbl, d0, d1⟩ := hit_cells HH4.out HNL.out hq
        have dd0 := (HB5.out.2.2.cell (p := ⟨hb, ho + i * 2, none⟩) hbl).trans d0
        have dd1 := (HB5.out.2.2.cell (p := ⟨hb, ho + i * 2 + 1, none⟩) hbl).trans d1
        have hb5 : hb < w5.heap.size := by omega
        have F1 : z ≤ AtF (decT t) a := by rw [HATZ.out]; exact atN_le h1 h2
        have F2 := AtF_le t a e h6
        have F3 : AtF (decT t) e ≤ t.size := by rw [← HEND.out]; exact AtF_le t e _ h7
        have F4 : AtF (decT t) a = AtF (decT t) e → a = e := fun h => AtF_inj t h2 h7 h
        have HGP : Hid (GapI t L (pvI X i) z (AtF (decT t) a)) := by
          show GapI _ _ _ _ _
          rw [HATZ.out]
          refine gap_of h4 (fun j hj hlt => ?_) fun a e h => (HPVE.out a e h).1
          rcases Nat.lt_or_ge j a with h | h
          · exact h
          · have := AtF_le t a j h; omega
        have HLA : Hid (∀ r, LongIs t L (AtF (decT t) a : Int) r → r = some e) := fun r hr => by rw [← h3]; exact hr.1 a h2 rfl
        have H5 := Lib.hid h5
        obtain ⟨xa, hxa⟩ : ∃ xa, AtF (decT t) a = xa := ⟨_, rfl⟩
        obtain ⟨xe, hxe⟩ : ∃ xe, AtF (decT t) e = xe := ⟨_, rfl⟩
        have HXA := Lib.hid hxa
        have HXE := Lib.hid hxe
        rw [hxa] at dd0 F1 F2 F4 HGP HLA
        rw [hxe] at dd1 F2 F3 F4
        have HF4 := Lib.hid F4
        have HBK := Lib.hid (Blk.new w5 33 #[.int .i64 (xa : Int), .int .i64 (xe : Int)])
        have HB6 : Hid (B3 w w2 w4 (w5.alloc (.cells #[.int .i64 (xa : Int), .int .i64 (xe : Int)] 33))) := HB5.out.on (below_al (Below.refl _ _) _)
        have HLM := Lib.hid (longM_any HN.out hn0 (by omega) HOK.out HSET.out (by omega : t.size ≤ 60) hc HLL.out (xa : Int) (w5.alloc (.cells #[.int .i64 (xa : Int), .int .i64 (xe : Int)] 33)) HB6.out.2.1.size (HP.out.below HB6.out.2.1))
        have HE7 := Lib.hid h7
        clear h1 h2 h3 h4 h5 h6 h7 hq d0 d1 hxa hxe F4 HRX HGE
        go_wp2_with fail
        refine HLM.out.mono ?_
        rintro e7 w7 ⟨⟨r, hr7, rfl⟩, hb7⟩
        obtain rfl := HLA.out r hr7
        have HB7 : Hid (B3 w w2 w4 w7) := HB6.out.on hb7
        have HBK7 := Lib.hid (HBK.out.below hb7 (by simp))
        have y0 := HBK7.out.cell 0
        have y1 := HBK7.out.cell 1
        have hyl := HBK7.out.lt
        simp only [List.getElem?_toArray, List.getElem?_cons_succ, List.getElem?_cons_zero] at y0 y1
        have hs7 : w4.heap.size ≤ w7.heap.size := HB7.out.2.2.size
        rw [longV_some, HXE.out]
        clear hb7 hr7 HLM HLA dd0 dd1 hb5
        go_upto_region 15 with fail
        go_cut [111] from 37 to 168 (fun v wx => v = .bool false ∧ Drw w7 wx)
        case first =>
          have g1 : ¬ xa < z := by omega
          have g2 : ¬ xe < xa := by omega
          have g3 : ¬ t.size < xe := by omega
          by_cases hi0 : i = 0
          · subst hi0
            go_quiet (fail)
            go_wp2_with fail
            go_meet
            case rel => exact ⟨rfl, nq, rfl⟩
          · have hi1 : 0 < i := by omega
            by_cases hxx : xa = xe
            · obtain ⟨q2, hq2⟩ : ∃ q2, X[i - 1]? = some q2 := ⟨_, List.getElem?_eq_getElem (by rw [HNL.out]; omega)⟩
              obtain ⟨a2, e2⟩ := q2
              obtain ⟨hb', ho', e', hbl2, -, k1⟩ := hit_cells HH4.out HNL.out hq2
              simp only [Option.some.injEq, Addr.mk.injEq, and_true] at e'
              obtain ⟨rfl, rfl⟩ := e'
              have kk1 := (HB7.out.2.2.cell (p := ⟨hb, ho + (i - 1) * 2 + 1, none⟩) hbl2).trans k1
              have hb7 : hb < w7.heap.size := by omega
              have hne : AtF (decT t) e2 ≠ xe := fun h => by
                have hpv : pvI X i = some (a2, e2) := by unfold pvI; rw [if_neg hi0]; exact hq2
                have hee : e2 = e := by
                  rw [← HXE.out] at h
                  exact AtF_inj t (HPVE.out a2 e2 hpv).1 HE7.out h
                exact H5.out ⟨HF4.out hxx, a2, by rw [hpv, hee]⟩
              obtain ⟨x2, hx2⟩ : ∃ x2, AtF (decT t) e2 = x2 := ⟨_, rfl⟩
              rw [hx2] at kk1 hne
              have hne1 : ((x2 : Int) == (xe : Int)) = false := by rw [beq_eq_false_iff_ne]; omega
              subst hxx
              clear k1 hx2 hq2
              go_quiet (fail)
              go_wp2_with fail
              go_meet
              case rel => exact ⟨rfl, nq, rfl⟩
            · have hxd : ((xa : Int) == (xe : Int)) = false := by rw [beq_eq_false_iff_ne]; omega
              go_quiet (fail)
              go_wp2_with fail
              go_meet
              case rel => exact ⟨rfl, nq, rfl⟩
        case rest =>
        obtain ⟨rfl, hdw⟩ := hcut
        have HB8 : Hid (B3 w w2 w4 wc) := HB7.out.drw hdw
        have y08 := hdw.cell y0
        have hyl8 := hdw.size
        have hyl9 : w5.heap.size < wc.heap.size := by omega
        clear hdw y0 y1 hyl hyl8
        go_wp2_with fail
        go_meet
        case rel => exact ⟨xa, rfl, F1, by omega, HGP.out, HB8.out⟩
      · have HG : Hid (GapI t L (pvI X i) z (t.size + 1)) := HGE.out.resolve_right hin
        clear HRX HGE
        go_wp2_with fail
        go_meet
        case rel => exact ⟨t.size + 1, by go_num, by omega, by omega, HG.out, HB5.out⟩
    case rest =>
    obtain ⟨T, rfl, hzT2, hTs, HG, HBc⟩ := hcut
    have HRY := HRX
    clear HGE HRX
    obtain ⟨w8, hw8⟩ : ∃ w8, w8 = wc := ⟨_, rfl⟩
    subst hw8
    go_wp2_with fail
    go_loopw [13] (fun v13 wr => ∃ kk : Nat, v13 = .int .i64 (kk : Int) ∧ z ≤ kk ∧ kk ≤ T ∧ Hid (B3 w w2 w4 wr)) (fun v13 _ => T - (intOf v13).toNat)
    case atStart => exact ⟨z, rfl, by omega, hzT2, HBc.out⟩
    case round =>
    obtain ⟨kk, rfl, hzk, hkT, HB9⟩ := hrel
    obtain ⟨w9, hw9⟩ : ∃ w9, w9 = wr := ⟨_, rfl⟩
    subst hw9
    have hs9 : w4.heap.size ≤ w9.heap.size := HB9.out.2.2.size
    by_cases hkl : kk < T
    · have HLM := Lib.hid (longM_any HN.out hn0 (by omega) HOK.out HSET.out (by omega : t.size ≤ 60) hc HLL.out (kk : Int) w9 HB9.out.2.1.size (HP.out.below HB9.out.2.1))
      go_wp2_with fail
      refine HLM.out.mono ?_
      rintro eA wA ⟨⟨r, hrA, rfl⟩, hbA⟩
      have HBA : Hid (B3 w w2 w4 wA) := HB9.out.on hbA
      have hsA : w4.heap.size ≤ wA.heap.size := HBA.out.2.2.size
      cases r with
      | none =>
        rw [longV_none]
        clear hbA hrA HLM
        go_wp2_with fail
        go_roundw
        case rel => exact ⟨kk + 1, by go_num, by omega, by omega, HBA.out⟩
        case measure => simp [intOf] <;> omega
      | some x =>
        have hex : ∃ j, j ≤ (decT t).length ∧ (AtF (decT t) j : Int) = (kk : Int) := by
          apply Classical.byContradiction
          intro hno
          have := hrA.2 fun j hj hat => hno ⟨j, hj, hat⟩
          simp at this
        obtain ⟨j, hj, hat⟩ := hex
        have hLj := (hrA.1 j hj hat).symm
        have hat2 : AtF (decT t) j = kk := by omega
        obtain ⟨rfl, b, hpv⟩ := HG.out kk hzk hkl j x hj hat2 hLj
        obtain ⟨-, hi0, hX1⟩ := HPVE.out b x hpv
        obtain ⟨hb, ho, rfl, hbl, -, k1⟩ := hit_cells HH4.out HNL.out hX1
        rw [hat2] at k1
        have kk1 := (HBA.out.2.2.cell (p := ⟨hb, ho + (i - 1) * 2 + 1, none⟩) hbl).trans k1
        have hbA9 : hb < wA.heap.size := by omega
        have hi1 : ((i : Int) == 0) = false := by rw [beq_eq_false_iff_ne]; omega
        rw [longV_some, hat2]
        clear hbA hrA HLM hat hLj hj hat2 hpv hX1 k1
        go_wp2_with fail
        go_roundw
        case rel => exact ⟨kk + 1, by go_num, by omega, by omega, HBA.out⟩
        case measure => simp [intOf] <;> omega
    · obtain rfl : kk = T := by omega
      by_cases hin : i < nl
      · obtain ⟨q, hq⟩ : ∃ q, X[i]? = some q := ⟨_, List.getElem?_eq_getElem (by rw [HNL.out]; exact hin)⟩
        obtain ⟨a, e⟩ := q
        obtain ⟨h1, h2, h3, h4, h5⟩ := HRY.out.1 a e hq
        obtain ⟨h6, h7⟩ := HLE.out a e h2 h3
        obtain ⟨hb, ho, rfl, hbl, d0, d1⟩ := hit_cells HH4.out HNL.out hq
        have dd0 := (HB9.out.2.2.cell (p := ⟨hb, ho + i * 2, none⟩) hbl).trans d0
        have dd1 := (HB9.out.2.2.cell (p := ⟨hb, ho + i * 2 + 1, none⟩) hbl).trans d1
        have hb9 : hb < w9.heap.size := by omega
        have hpv : pvI X (i + 1) = some (a, e) := by unfold pvI; rw [if_neg (Nat.succ_ne_zero i)]; exact hq
        have F4 : AtF (decT t) a = AtF (decT t) e ↔ a = e := ⟨fun h => AtF_inj t h2 h7 h, fun h => by rw [h]⟩
        have HAN : Hid (atN t (pvI X (i + 1)) = if AtF (decT t) a = AtF (decT t) e then AtF (decT t) e + 1 else AtF (decT t) e) := by
          show _ = _
          rw [hpv, atN_some]
          by_cases hae : a = e
          · rw [if_pos hae, if_pos (F4.2 hae)]
          · rw [if_neg hae, if_neg fun h => hae (F4.1 h)]
        obtain ⟨xa, hxa⟩ : ∃ xa, AtF (decT t) a = xa := ⟨_, rfl⟩
        obtain ⟨xe, hxe⟩ : ∃ xe, AtF (decT t) e = xe := ⟨_, rfl⟩
        have hxe9 : xe ≤ t.size := by rw [← hxe, ← HEND.out]; exact AtF_le t e _ h7
        rw [hxa] at dd0 HAN
        rw [hxe] at dd1 HAN
        clear h1 h2 h3 h4 h5 h6 h7 hq d0 d1 hxa hxe F4 hpv
        go_upto_region 26 with fail
        by_cases hxx : xa = xe
        · subst hxx
          have HAN2 : Hid (xa + 1 = atN t (pvI X (i + 1))) := by show _ = _; rw [HAN.out, if_pos rfl]
          go_quiet (fail)
          have HBB : Hid (B3 w w2 w4 (w9.drewN nq)) := HB9.out.drw ((Drw.refl w9).more nq)
          generalize w9.drewN nq = wB at HBB ⊢
          clear HAN dd0 dd1
          go_wp2_with fail
          go_roundw
          case rel => exact ⟨i + 1, xa + 1, by go_num, by go_num, by omega, fun _ => HAN2.out, HBB.out⟩
          case measure => simp [intOf] <;> omega
        · have hxd : ((xa : Int) == (xe : Int)) = false := by rw [beq_eq_false_iff_ne]; omega
          have HAN2 : Hid (xe = atN t (pvI X (i + 1))) := by show _ = _; rw [HAN.out, if_neg hxx]
          go_quiet (fail)
          have HBB : Hid (B3 w w2 w4 (w9.drewN nq)) := HB9.out.drw ((Drw.refl w9).more nq)
          generalize w9.drewN nq = wB at HBB ⊢
          clear HAN dd0 dd1
          go_wp2_with fail
          go_roundw
          case rel => exact ⟨i + 1, xe, by go_num, by go_num, by omega, fun _ => HAN2.out, HBB.out⟩
          case measure => simp [intOf] <;> omega
      · go_wp2_with fail
        go_roundw
        case rel => exact ⟨i + 1, z, by go_num, by go_num, by omega, fun h => by omega, HB9.out⟩
        case measure => simp [intOf] <;> omega
  · have HBF := Lib.hid HB5.out.1
    go_wp2_with fail
    go_ret
    exact ⟨rfl, HBF.out⟩
end Go.Proofs.Ytjfkppbfckgckaa
