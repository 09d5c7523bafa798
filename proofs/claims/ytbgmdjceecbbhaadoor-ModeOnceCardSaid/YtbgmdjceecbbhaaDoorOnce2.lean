/-
  The law ModeOnce returns true: its walk; no condition beyond those that each theorem states.
-/
import Derived.Test.YtbgmdjceecbbhaaDoorOnce1
import Derived.Test.YtbgmdjceecbbhaaDoorFirst1
namespace Go.Proofs.YtbgmdjceecbbhaaDoor
open Go.RowKit Go.Rb
attribute [local irreducible] Go.wpQuiet

theorem m17 (x : Int) : ∃ b : Nat, b ≤ 16 ∧ (wrap64 (x.tmod 17 + 17)).tmod 17 = (b : Int) := by
  have h1 : x.tmod 17 < 17 := Int.tmod_lt_of_pos x (by decide)
  have h2 : -17 < x.tmod 17 := Int.lt_tmod_of_pos x (by decide)
  have e : wrap64 (x.tmod 17 + 17) = x.tmod 17 + 17 := by unfold wrap64; omega
  rw [e, Int.tmod_eq_emod_of_nonneg (by omega)]
  exact ⟨((x.tmod 17 + 17) % 17).toNat, by omega, by omega⟩
set_option maxRecDepth 20000 in
set_option maxHeartbeats 1000000 in
theorem once_any (x y : Int) (hits : List Bool) (A : Option Addr) (n c : Nat) (w : World) (hT : Tb w) (hl : hits.length = n) (hr : Rd w w.heap.size 1 A n (hits.map Value.bool)) (hx : I64 x) (hy : I64 y) :
    Calls Tryd.prog 3 #[.int .i64 x, .int .i64 y, .slice A n c] w fun e w' => e = .returned (.bool true) ∧ Below w.heap.size w w' := by
  have HT := Lib.hid hT
  have HRD := Lib.hid hr
  have h0 := hT.lt
  have HAW := Lib.hid (fun W (h : Tb W) => awake_any W h)
  have HXY : Hid (I64 x ∧ I64 y) := ⟨hx, hy⟩
  clear hT hr hx hy
  by_cases hbig : 60 < n
  · have F1 : decide (60 < (n : Int)) = true := decide_eq_true (by omega)
    clear hbig
    go_enter Tryd.func3, Tryd.ntmps3
    go_wp2_with fail
    refine (HAW.out w HT.out).mono ?_
    rintro e1 w1 ⟨rfl, hb1⟩
    have HB1 := Lib.hid hb1
    clear hb1
    go_wp2_with fail
    refine (HAW.out w1 (HT.out.below' HB1.out)).mono ?_
    rintro e2 w2 ⟨rfl, hb2⟩
    have HB2 := Lib.hid hb2
    clear hb2
    go_wp2_with fail
    go_ret
    exact ⟨rfl, below_trans HB1.out HB2.out⟩
  have F1 : decide (60 < (n : Int)) = false := decide_eq_false (by omega)
  go_enter Tryd.func3, Tryd.ntmps3
  go_wp2_with fail
  refine (HAW.out w HT.out).mono ?_
  rintro e1 w1 ⟨rfl, hb1⟩
  have HB1 := Lib.hid hb1
  clear hb1
  go_wp2_with fail
  have hb := m17 x
  have ha := m17 y
  obtain ⟨b, hb16, hb⟩ := hb
  obtain ⟨a, ha16, ha⟩ := ha
  rw [hb, ha]
  clear hb ha HXY
  refine (new_ok 3 b a (by decide) (by decide) (by omega) (by omega) (by omega) (by omega) w1).mono ?_
  rintro e2 w2 ⟨rfl, htr2, hb2, hsz2⟩
  have HTR2 := Lib.hid htr2
  have HB2 := Lib.hid (below_trans HB1.out hb2)
  have hp0 : w.heap.size ≤ w1.heap.size := HB1.out.size
  clear htr2 hb2 hsz2
  unfold pp
  obtain ⟨p, hp⟩ : ∃ p, w1.heap.size = p := ⟨_, rfl⟩
  rw [hp] at HTR2 hp0 ⊢
  have HP0 := Lib.hid hp0
  clear hp hp0
  go_wp2_with fail
  go_loopw [11, 12, 13, 14, 15, 16, 17, 18, 19] (fun cv lv rv iv _ _ _ _ _ wr => ∃ (i cn ln rn m : Nat) (s : Ts) (hv : Value), iv = .int .i64 i ∧ i ≤ n ∧ cv = .int .i64 cn ∧ lv = .int .i64 ln ∧ rv = .int .i64 rn ∧ cn ≤ rn ∧ rn + m ≤ i ∧ ln ≤ 2 * rn ∧ Hid (b = 0 → a = 0 → rn = cn) ∧ Hid (KO hits b a i s m) ∧ Hid (Tr wr p s hv) ∧ Hid (∀ k, hv.ownBlock = some k → w.heap.size ≤ k) ∧ Hid (Below w.heap.size w wr)) (fun _ _ _ iv _ _ _ _ _ _ => n - (intOf iv).toNat)
  case atStart => exact ⟨0, 0, 0, 0, 0, _, _, rfl, by omega, rfl, rfl, rfl, by omega, by omega, by omega, fun _ _ => rfl, KO.begin_ hits b a, HTR2.out, fun k hk => by simp [Value.ownBlock] at hk, HB2.out⟩
  case round =>
    obtain ⟨i, cn, ln, rn, m, s, hv, rfl, hi, rfl, rfl, rfl, hcr, hrm, hlr, hba, hko, htr, hkv, hbw⟩ := hrel
    have HTW := Lib.hid (HT.out.below' hbw.out)
    by_cases hlt : i < n
    · obtain ⟨pb, po, rfl, hpl, hcell⟩ := (HRD.out.below hbw.out).2 (by omega)
      have hpl' := hpl
      have y0 := hcell i (by omega)
      rw [List.getElem?_map, List.getElem?_eq_getElem (by omega)] at y0
      have hgd : hits.getD i false = hits[i]'(by omega) := by rw [List.getD_eq_getElem?_getD, List.getElem?_eq_getElem (by omega)]; rfl
      replace y0 : wr.cell? ⟨pb, po + i, none⟩ = some (.bool (hits.getD i false)) := by rw [hgd]; exact y0
      have hst := hko.out.step (by omega) (by omega)
      have hfit := hko.out.fit (by omega) (by omega) (by omega)
      have HST := Lib.hid hst
      have HFIT := Lib.hid hfit
      have i1 : (i : Int) < (n : Int) := by omega
      have i2 : (0 : Int) ≤ (i : Int) := by omega
      have HCELL := Lib.hid hcell
      clear hst hfit hgd hcell
      obtain ⟨hit, hhit⟩ : ∃ x, hits.getD i false = x := ⟨_, rfl⟩
      rw [hhit] at y0 HST
      have HHIT := Lib.hid hhit
      clear hhit
      obtain ⟨hs, hhs⟩ : ∃ hs, (if hit then [(⟨0, 0⟩ : Ht)] else []) = hs := ⟨_, rfl⟩
      have hfl : decide (0 < (hs.filter (good (RX i).t.length)).length) = hit := by rw [← hhs]; cases hit <;> simp [RX, good]
      have HFL := Lib.hid hfl
      have HRW1 : Hid (∀ W, Calls Tryd.prog 9 #[.int .i64 (i : Int), .string ⟨#[120]⟩, .bool hit] W fun e w' => ∃ A m, m ≤ 1 ∧ e = .returned (.agg #[.int .i64 (i : Int), .int .i64 0, .string ⟨#[120]⟩, .slice A m m]) ∧ hs.length = m ∧ Rd w' w'.heap.size 2 A m (hts hs) ∧ Below W.heap.size W w') := fun W => (row_any (i : Int) ⟨#[120]⟩ hit W).mono fun e w' ⟨A, m, h1, h2, h3, h4, h5⟩ => ⟨A, m, h1, h2, by rw [h3, ← hhs]; cases hit <;> rfl, by rw [← hhs]; exact h4, h5⟩
      have hrc : rcv (RX i) = .agg #[.int .i64 (i : Int), .int .i64 0, .string ⟨#[120]⟩] := rfl
      have HRC := Lib.hid hrc
      have HXI : Hid (I64 (RX i).n ∧ (RX i).t.length ≤ 60) := ⟨by unfold I64 RX; simp only; omega, by simp [RX]⟩
      clear hfl hhs hrc
      obtain ⟨CX, hCX⟩ : ∃ X, ctx s (RX i) hit = X := ⟨_, rfl⟩
      rw [hCX] at HST
      have HCX := Lib.hid hCX
      clear hCX
      obtain ⟨LX, SX⟩ := CX
      simp only at HST
      obtain ⟨sp, c0, k, m', hst⟩ := HST.out
      have HST2 := Lib.hid hst
      clear hst HST
      have hpl3 : pb < wr.heap.size := by have := hbw.out.size; omega
      cases hit
      · go_wp2_with fail
        refine (HRW1.out wr).mono ?_
        rintro e3 w3 ⟨Ah, mh, hm1, rfl, hmh, hrd, hb3⟩
        have HMH := Lib.hid hmh
        have HRD3 := Lib.hid hrd
        have HB3 := Lib.hid hb3
        have y3 := (hb3.cell (p := ⟨pb, po + i, none⟩) hpl3).trans y0
        have hpl4 : pb < w3.heap.size := by have := hb3.size; omega
        clear hmh hrd hb3
        go_wp2_with fail
        have HBR := Lib.hid (below_al HB3.out (.cells #[.int .i64 (i : Int), .int .i64 0, .string ⟨#[120]⟩, .slice Ah mh mh] 32))
        have HRD5 := Lib.hid ((HRD3.out.below (below_al (Below.refl _ w3) (.cells #[.int .i64 (i : Int), .int .i64 0, .string ⟨#[120]⟩, .slice Ah mh mh] 32))).more (below_al (Below.refl _ w3) (.cells #[.int .i64 (i : Int), .int .i64 0, .string ⟨#[120]⟩, .slice Ah mh mh] 32)).size)
        generalize w3.alloc (.cells #[.int .i64 (i : Int), .int .i64 0, .string ⟨#[120]⟩, .slice Ah mh mh] 32) = W5 at *
        have hadd := add_ctx s (RX i) hs Ah mh mh p hv W5 (htr.out.below HBR.out (Nat.le_refl _)) (HTW.out.below' HBR.out) (by have := HP0.out; omega) HXI.out HMH.out HRD5.out (by omega) HFIT.out.1 HFIT.out.2.1 HFIT.out.2.2.1 HFIT.out.2.2.2.1 HFIT.out.2.2.2.2
        rw [HFL.out, HRC.out, HCX.out] at hadd
        refine hadd.mono ?_
        rintro e6 w6 ⟨v6', hv6, rfl, hown6, hk6, htr6, hkv6, hon6⟩
        clear hadd y3 y0 hpl4
        simp only at hown6 htr6
        have hbr := hbw.out.trans (HBR.out.mono hbw.out.size)
        have hb6 : Below w.heap.size w w6 := hbr.trans (hon6.below hbr.size (fun k hk => hk.elim (fun h => by have := HP0.out; omega) (fun h => hkv.out k h)))
        have hkv7 : ∀ k, hv6.ownBlock = some k → w.heap.size ≤ k := fun k hk => (hkv6 k hk).elim (fun h => hkv.out k h) (fun h => Nat.le_trans hbr.size h)
        have HB6 := Lib.hid hb6
        have HKV6 := Lib.hid hkv7
        have HTR6 := Lib.hid htr6
        obtain ⟨hl1, hck, hksp, hko2, hkm, hhk, hbk⟩ := HST2.out
        obtain rfl : LX = outOf hits sp c0 k := congrArg Prod.fst hl1
        have HKO2 := Lib.hid hko2
        have HKSP := Lib.hid hksp
        have HBK := Lib.hid hbk
        have HHK := Lib.hid hhk
        have hlen : (outOf hits sp c0 k).length = (if sp then 1 else 0) + k := by unfold outOf; rw [List.length_append, lnsOf_len]; cases sp <;> rfl
        obtain ⟨sn, hsn⟩ : ∃ sn, (if sp then 1 else 0) = sn := ⟨_, rfl⟩
        have hsn1 : sn ≤ 1 := by rw [← hsn]; cases sp <;> decide
        rw [hsn] at hlen
        have HGET : Hid (∀ j, j < sn + k → ∃ X, (lns (outOf hits sp c0 k))[j]? = some (.string (mk X)) ∧ ((j < sn ∧ X = [45, 45]) ∨ (sn ≤ j ∧ X = lnOf hits (c0 + (j - sn)))) ) := fun j hj => by
          unfold lns outOf
          rw [List.getElem?_map]
          rcases Nat.lt_or_ge j sn with hjs | hjs
          · have : sp = true := by cases sp with | true => rfl | false => simp at hsn; omega
            subst this
            obtain rfl : j = 0 := by simp at hsn; omega
            exact ⟨[45, 45], rfl, .inl ⟨hjs, rfl⟩⟩
          · refine ⟨lnOf hits (c0 + (j - sn)), ?_, .inr ⟨hjs, rfl⟩⟩
            have hl : (if sp then [[45, 45]] else ([] : List (List UInt8))).length = sn := by rw [← hsn]; cases sp <;> rfl
            rw [List.getElem?_append_right (by omega), hl, lnsOf_get hits c0 k (j - sn) (by omega)]
            rfl
        rw [hlen] at hown6
        obtain ⟨A6, c6, rfl, -, -⟩ := hown6.len_
        have HRD6 := Lib.hid hown6.rd
        clear hown6 htr6 hkv6 hkv7 hon6 hbr hb6 hko2 hksp hbk hhk hl1 hlen HST2 hk6
        have hsk : sn ≤ k := by
          rcases Nat.eq_zero_or_pos k with h | h
          · have := HKSP.out h
            rw [this] at hsn
            simp at hsn; omega
          · omega
        have HSK := Lib.hid hsk
        clear hsn hsk
        obtain ⟨L, hL⟩ : ∃ L, sn + k = L := ⟨_, rfl⟩
        rw [hL] at HRD6 HGET ⊢
        have HL := Lib.hid hL
        have hL63 : L ≤ 100 := by omega
        clear hL
        have HPB : Hid (∀ W, Below w.heap.size w W → ∀ q, q ≤ i → W.cell? ⟨pb, po + q, none⟩ = some (.bool (hits.getD q false))) := fun W hb q hq => by
          have := (hb.cell (p := ⟨pb, po + q, none⟩) hpl).trans (((hbw.out.cell (p := ⟨pb, po + q, none⟩) hpl).symm).trans (HCELL.out q (by omega)))
          rw [this, List.getElem?_map, List.getD_eq_getElem?_getD, List.getElem?_eq_getElem (by omega)]; rfl
        go_wp2_with fail
        go_loopw [12, 13, 17, 18, 19] (fun lv rv kv _ _ wr2 => ∃ j : Nat, kv = .int .i64 j ∧ j ≤ L ∧ lv = .int .i64 (ln + j : Nat) ∧ rv = .int .i64 (rn + (j - sn) : Nat) ∧ Hid (Below w6.heap.size w6 wr2)) (fun _ _ kv _ _ _ => L - (intOf kv).toNat)
        case atStart => exact ⟨0, rfl, by omega, by simp, by simp, Below.refl _ _⟩
        case round =>
          obtain ⟨j, rfl, hj, rfl, rfl, hbw2⟩ := hrel
          have HB2 := Lib.hid (HB6.out.trans (hbw2.out.mono HB6.out.size))
          obtain ⟨ln2, hln2⟩ : ∃ X : Nat, ln + j = X := ⟨_, rfl⟩
          obtain ⟨rn2, hrn2⟩ : ∃ X : Nat, rn + (j - sn) = X := ⟨_, rfl⟩
          have hln3 : ln2 ≤ 1000 := by omega
          have hrn3 : rn2 ≤ 1000 := by omega
          rw [hln2, hrn2]
          have HLN := Lib.hid hln2
          have HRN := Lib.hid hrn2
          clear hln2 hrn2
          by_cases hjl : j < L
          · obtain ⟨bo, oo, rfl, hlt6, hcell6⟩ := (HRD6.out.below hbw2.out).2 (by omega)
            obtain ⟨X, hX, hor⟩ := HGET.out j (by have := HL.out; omega)
            have x0 := (hcell6 j (by omega)).trans hX
            have j1 : (j : Int) < (L : Int) := by omega
            have j2 : (0 : Int) ≤ (j : Int) := by omega
            clear hcell6 hX
            rcases hor with ⟨hjs, rfl⟩ | ⟨hjs, rfl⟩
            · have F5 : ((mk [45, 45]).toList == [45, 45]) = true := by unfold mk; rw [ByteArray.toList_mk]; rfl
              have HJS := Lib.hid hjs
              clear hjs
              generalize mk [45, 45] = TX at *
              go_wp2_with fail
              go_roundw
              case rel => exact ⟨j + 1, by go_num, by omega, by rw [show ln + (j + 1) = ln2 + 1 by have := HLN.out; omega]; go_num, by rw [show rn + (j + 1 - sn) = rn2 by have := HRN.out; have := HJS.out; omega], hbw2.out⟩
              case measure => simp [intOf]; omega
            · obtain ⟨q, hq⟩ : ∃ q, c0 + (j - sn) = q := ⟨_, rfl⟩
              rw [hq] at x0
              have hqi : q ≤ i := by have := HL.out; omega
              have HE : (i : Int) - ((L : Int) - 1 - (j : Int)) = (q : Int) := by have := HL.out; omega
              have HQ := Lib.hid (digits_any (q : Int) (by unfold I64; omega))
              have hqI : I64 (q : Int) := by unfold I64; omega
              have hqs : (mk (Lib.itoa (q : Int))).size ≤ 20 := itoa_len _ hqI
              have hq1 : (q : Int) < (n : Int) := by omega
              have hq2 : (0 : Int) ≤ (q : Int) := by omega
              have y5 := HPB.out _ HB2.out q hqi
              have HY5 := Lib.hid (fun W hb => HPB.out W hb q hqi)
              have F5 : ((mk (lnOf hits q)).toList == [45, 45]) = false := by
                unfold mk; rw [ByteArray.toList_mk, beq_eq_false_iff_ne]
                unfold lnOf line RX
                intro e
                have := congrArg List.length e
                simp at this
                obtain ⟨ch, t, e2⟩ : ∃ ch t, Lib.itoa (q : Int) = ch :: t := by
                  unfold Lib.itoa
                  rw [if_neg (by omega), Int.toNat_natCast]
                  rcases Nat.eq_zero_or_pos q with h | h
                  · subst h; exact ⟨48, [], by simp [Lib.decDigits]⟩
                  · obtain ⟨d, t, -, -, e3⟩ := dec_head q h
                    exact ⟨_, t, e3⟩
                rw [e2] at this
                simp at this
              have HW1 : Hid (hits.getD q false = false → mk (Lib.itoa (q : Int)) ++ ⟨#[45, 120]⟩ = mk (lnOf hits q)) := fun h => by
                rw [show (⟨#[45, 120]⟩ : ByteArray) = mk [45, 120] from rfl, mk_append]
                unfold lnOf line RX; rw [h]; simp
              have HW2 : Hid (hits.getD q false = true → mk (Lib.itoa (q : Int)) ++ ⟨#[58, 120]⟩ = mk (lnOf hits q)) := fun h => by
                rw [show (⟨#[58, 120]⟩ : ByteArray) = mk [58, 120] from rfl, mk_append]
                unfold lnOf line RX; rw [h]; simp
              have HJS := Lib.hid hjs
              have HQQ := Lib.hid hq
              clear hjs hq
              generalize mk (lnOf hits q) = TX at *
              generalize mk (Lib.itoa (q : Int)) = SD at *
              have HX0 : Hid (∀ W, Below wr.heap.size wr W → W.cell? ⟨bo, oo + j, none⟩ = some (.string TX)) := fun W hb => (hb.cell (p := ⟨bo, oo + j, none⟩) (by have := hbw2.out.size; show bo < _; omega)).trans x0
              go_wp2_with fail
              refine (HQ.out wr).mono ?_
              rintro e7 w7 ⟨rfl, hb7⟩
              have HB7 := Lib.hid (hbw2.out.trans (hb7.mono hbw2.out.size))
              have y7 := HY5.out w7 (HB2.out.trans (hb7.mono HB2.out.size))
              have x7 := HX0.out w7 hb7
              clear hb7 y5 x0
              cases hqv : hits.getD q false
              · have hw := HW1.out hqv
                rw [hqv] at y7
                clear hqv
                go_wp2_with fail
                go_roundw
                case rel => exact ⟨j + 1, by go_num, by omega, by rw [show ln + (j + 1) = ln2 + 1 by have := HLN.out; omega]; go_num, by rw [show rn + (j + 1 - sn) = rn2 + 1 by have := HRN.out; have := HJS.out; omega]; go_num, HB7.out⟩
                case measure => simp [intOf]; omega
              · have hw := HW2.out hqv
                rw [hqv] at y7
                clear hqv
                go_wp2_with fail
                refine (HQ.out w7).mono ?_
                rintro e8 w8 ⟨rfl, hb8⟩
                have HB8 := Lib.hid (HB7.out.trans (hb8.mono HB7.out.size))
                have x8 := (hb8.cell (p := ⟨bo, oo + j, none⟩) (by have := HB7.out.size; show bo < _; omega)).trans x7
                clear hb8 x7 y7
                go_wp2_with fail
                go_roundw
                case rel => exact ⟨j + 1, by go_num, by omega, by rw [show ln + (j + 1) = ln2 + 1 by have := HLN.out; omega]; go_num, by rw [show rn + (j + 1 - sn) = rn2 + 1 by have := HRN.out; have := HJS.out; omega]; go_num, HB8.out⟩
                case measure => simp [intOf]; omega
          · obtain rfl : j = L := by omega
            go_wp2_with fail
            go_roundw
            case rel =>
              have e1 : ln2 = ln + j := HLN.out.symm
              have e2 : rn2 = rn + k := by have := HRN.out; have := HL.out; omega
              refine ⟨i + 1, cn, ln2, rn2, m', SX, hv6, by go_num, by omega, by go_num, rfl, rfl, ?_, ?_, ?_, ?_, HKO2.out, HTR6.out.below hbw2.out (Nat.le_refl _), HKV6.out, HB2.out⟩
              · have := HHK.out; simp at this; omega
              · omega
              · have := HL.out; have := HSK.out; omega
              · intro h1 h2; have g1 := HBK.out h1 h2; have g2 := hba.out h1 h2; simp at g1; omega
            case measure => simp [intOf]; omega
      · go_wp2_with fail
        refine (HRW1.out wr).mono ?_
        rintro e3 w3 ⟨Ah, mh, hm1, rfl, hmh, hrd, hb3⟩
        have HMH := Lib.hid hmh
        have HRD3 := Lib.hid hrd
        have HB3 := Lib.hid hb3
        have y3 := (hb3.cell (p := ⟨pb, po + i, none⟩) hpl3).trans y0
        have hpl4 : pb < w3.heap.size := by have := hb3.size; omega
        clear hmh hrd hb3
        go_wp2_with fail
        have HBR := Lib.hid (below_al HB3.out (.cells #[.int .i64 (i : Int), .int .i64 0, .string ⟨#[120]⟩, .slice Ah mh mh] 32))
        have HRD5 := Lib.hid ((HRD3.out.below (below_al (Below.refl _ w3) (.cells #[.int .i64 (i : Int), .int .i64 0, .string ⟨#[120]⟩, .slice Ah mh mh] 32))).more (below_al (Below.refl _ w3) (.cells #[.int .i64 (i : Int), .int .i64 0, .string ⟨#[120]⟩, .slice Ah mh mh] 32)).size)
        generalize w3.alloc (.cells #[.int .i64 (i : Int), .int .i64 0, .string ⟨#[120]⟩, .slice Ah mh mh] 32) = W5 at *
        have hadd := add_ctx s (RX i) hs Ah mh mh p hv W5 (htr.out.below HBR.out (Nat.le_refl _)) (HTW.out.below' HBR.out) (by have := HP0.out; omega) HXI.out HMH.out HRD5.out (by omega) HFIT.out.1 HFIT.out.2.1 HFIT.out.2.2.1 HFIT.out.2.2.2.1 HFIT.out.2.2.2.2
        rw [HFL.out, HRC.out, HCX.out] at hadd
        refine hadd.mono ?_
        rintro e6 w6 ⟨v6', hv6, rfl, hown6, hk6, htr6, hkv6, hon6⟩
        clear hadd y3 y0 hpl4
        simp only at hown6 htr6
        have hbr := hbw.out.trans (HBR.out.mono hbw.out.size)
        have hb6 : Below w.heap.size w w6 := hbr.trans (hon6.below hbr.size (fun k hk => hk.elim (fun h => by have := HP0.out; omega) (fun h => hkv.out k h)))
        have hkv7 : ∀ k, hv6.ownBlock = some k → w.heap.size ≤ k := fun k hk => (hkv6 k hk).elim (fun h => hkv.out k h) (fun h => Nat.le_trans hbr.size h)
        have HB6 := Lib.hid hb6
        have HKV6 := Lib.hid hkv7
        have HTR6 := Lib.hid htr6
        obtain ⟨hl1, hck, hksp, hko2, hkm, hhk, hbk⟩ := HST2.out
        obtain rfl : LX = outOf hits sp c0 k := congrArg Prod.fst hl1
        have HKO2 := Lib.hid hko2
        have HKSP := Lib.hid hksp
        have HBK := Lib.hid hbk
        have HHK := Lib.hid hhk
        have hlen : (outOf hits sp c0 k).length = (if sp then 1 else 0) + k := by unfold outOf; rw [List.length_append, lnsOf_len]; cases sp <;> rfl
        obtain ⟨sn, hsn⟩ : ∃ sn, (if sp then 1 else 0) = sn := ⟨_, rfl⟩
        have hsn1 : sn ≤ 1 := by rw [← hsn]; cases sp <;> decide
        rw [hsn] at hlen
        have HGET : Hid (∀ j, j < sn + k → ∃ X, (lns (outOf hits sp c0 k))[j]? = some (.string (mk X)) ∧ ((j < sn ∧ X = [45, 45]) ∨ (sn ≤ j ∧ X = lnOf hits (c0 + (j - sn)))) ) := fun j hj => by
          unfold lns outOf
          rw [List.getElem?_map]
          rcases Nat.lt_or_ge j sn with hjs | hjs
          · have : sp = true := by cases sp with | true => rfl | false => simp at hsn; omega
            subst this
            obtain rfl : j = 0 := by simp at hsn; omega
            exact ⟨[45, 45], rfl, .inl ⟨hjs, rfl⟩⟩
          · refine ⟨lnOf hits (c0 + (j - sn)), ?_, .inr ⟨hjs, rfl⟩⟩
            have hl : (if sp then [[45, 45]] else ([] : List (List UInt8))).length = sn := by rw [← hsn]; cases sp <;> rfl
            rw [List.getElem?_append_right (by omega), hl, lnsOf_get hits c0 k (j - sn) (by omega)]
            rfl
        rw [hlen] at hown6
        obtain ⟨A6, c6, rfl, -, -⟩ := hown6.len_
        have HRD6 := Lib.hid hown6.rd
        clear hown6 htr6 hkv6 hkv7 hon6 hbr hb6 hko2 hksp hbk hhk hl1 hlen HST2 hk6
        have hsk : sn ≤ k := by
          rcases Nat.eq_zero_or_pos k with h | h
          · have := HKSP.out h
            rw [this] at hsn
            simp at hsn; omega
          · omega
        have HSK := Lib.hid hsk
        clear hsn hsk
        obtain ⟨L, hL⟩ : ∃ L, sn + k = L := ⟨_, rfl⟩
        rw [hL] at HRD6 HGET ⊢
        have HL := Lib.hid hL
        have hL63 : L ≤ 100 := by omega
        clear hL
        have HPB : Hid (∀ W, Below w.heap.size w W → ∀ q, q ≤ i → W.cell? ⟨pb, po + q, none⟩ = some (.bool (hits.getD q false))) := fun W hb q hq => by
          have := (hb.cell (p := ⟨pb, po + q, none⟩) hpl).trans (((hbw.out.cell (p := ⟨pb, po + q, none⟩) hpl).symm).trans (HCELL.out q (by omega)))
          rw [this, List.getElem?_map, List.getD_eq_getElem?_getD, List.getElem?_eq_getElem (by omega)]; rfl
        go_wp2_with fail
        go_loopw [12, 13, 17, 18, 19] (fun lv rv kv _ _ wr2 => ∃ j : Nat, kv = .int .i64 j ∧ j ≤ L ∧ lv = .int .i64 (ln + j : Nat) ∧ rv = .int .i64 (rn + (j - sn) : Nat) ∧ Hid (Below w6.heap.size w6 wr2)) (fun _ _ kv _ _ _ => L - (intOf kv).toNat)
        case atStart => exact ⟨0, rfl, by omega, by simp, by simp, Below.refl _ _⟩
        case round =>
          obtain ⟨j, rfl, hj, rfl, rfl, hbw2⟩ := hrel
          have HB2 := Lib.hid (HB6.out.trans (hbw2.out.mono HB6.out.size))
          obtain ⟨ln2, hln2⟩ : ∃ X : Nat, ln + j = X := ⟨_, rfl⟩
          obtain ⟨rn2, hrn2⟩ : ∃ X : Nat, rn + (j - sn) = X := ⟨_, rfl⟩
          have hln3 : ln2 ≤ 1000 := by omega
          have hrn3 : rn2 ≤ 1000 := by omega
          rw [hln2, hrn2]
          have HLN := Lib.hid hln2
          have HRN := Lib.hid hrn2
          clear hln2 hrn2
          by_cases hjl : j < L
          · obtain ⟨bo, oo, rfl, hlt6, hcell6⟩ := (HRD6.out.below hbw2.out).2 (by omega)
            obtain ⟨X, hX, hor⟩ := HGET.out j (by have := HL.out; omega)
            have x0 := (hcell6 j (by omega)).trans hX
            have j1 : (j : Int) < (L : Int) := by omega
            have j2 : (0 : Int) ≤ (j : Int) := by omega
            clear hcell6 hX
            rcases hor with ⟨hjs, rfl⟩ | ⟨hjs, rfl⟩
            · have F5 : ((mk [45, 45]).toList == [45, 45]) = true := by unfold mk; rw [ByteArray.toList_mk]; rfl
              have HJS := Lib.hid hjs
              clear hjs
              generalize mk [45, 45] = TX at *
              go_wp2_with fail
              go_roundw
              case rel => exact ⟨j + 1, by go_num, by omega, by rw [show ln + (j + 1) = ln2 + 1 by have := HLN.out; omega]; go_num, by rw [show rn + (j + 1 - sn) = rn2 by have := HRN.out; have := HJS.out; omega], hbw2.out⟩
              case measure => simp [intOf]; omega
            · obtain ⟨q, hq⟩ : ∃ q, c0 + (j - sn) = q := ⟨_, rfl⟩
              rw [hq] at x0
              have hqi : q ≤ i := by have := HL.out; omega
              have HE : (i : Int) - ((L : Int) - 1 - (j : Int)) = (q : Int) := by have := HL.out; omega
              have HQ := Lib.hid (digits_any (q : Int) (by unfold I64; omega))
              have hqI : I64 (q : Int) := by unfold I64; omega
              have hqs : (mk (Lib.itoa (q : Int))).size ≤ 20 := itoa_len _ hqI
              have hq1 : (q : Int) < (n : Int) := by omega
              have hq2 : (0 : Int) ≤ (q : Int) := by omega
              have y5 := HPB.out _ HB2.out q hqi
              have HY5 := Lib.hid (fun W hb => HPB.out W hb q hqi)
              have F5 : ((mk (lnOf hits q)).toList == [45, 45]) = false := by
                unfold mk; rw [ByteArray.toList_mk, beq_eq_false_iff_ne]
                unfold lnOf line RX
                intro e
                have := congrArg List.length e
                simp at this
                obtain ⟨ch, t, e2⟩ : ∃ ch t, Lib.itoa (q : Int) = ch :: t := by
                  unfold Lib.itoa
                  rw [if_neg (by omega), Int.toNat_natCast]
                  rcases Nat.eq_zero_or_pos q with h | h
                  · subst h; exact ⟨48, [], by simp [Lib.decDigits]⟩
                  · obtain ⟨d, t, -, -, e3⟩ := dec_head q h
                    exact ⟨_, t, e3⟩
                rw [e2] at this
                simp at this
              have HW1 : Hid (hits.getD q false = false → mk (Lib.itoa (q : Int)) ++ ⟨#[45, 120]⟩ = mk (lnOf hits q)) := fun h => by
                rw [show (⟨#[45, 120]⟩ : ByteArray) = mk [45, 120] from rfl, mk_append]
                unfold lnOf line RX; rw [h]; simp
              have HW2 : Hid (hits.getD q false = true → mk (Lib.itoa (q : Int)) ++ ⟨#[58, 120]⟩ = mk (lnOf hits q)) := fun h => by
                rw [show (⟨#[58, 120]⟩ : ByteArray) = mk [58, 120] from rfl, mk_append]
                unfold lnOf line RX; rw [h]; simp
              have HJS := Lib.hid hjs
              have HQQ := Lib.hid hq
              clear hjs hq
              generalize mk (lnOf hits q) = TX at *
              generalize mk (Lib.itoa (q : Int)) = SD at *
              have HX0 : Hid (∀ W, Below wr.heap.size wr W → W.cell? ⟨bo, oo + j, none⟩ = some (.string TX)) := fun W hb => (hb.cell (p := ⟨bo, oo + j, none⟩) (by have := hbw2.out.size; show bo < _; omega)).trans x0
              go_wp2_with fail
              refine (HQ.out wr).mono ?_
              rintro e7 w7 ⟨rfl, hb7⟩
              have HB7 := Lib.hid (hbw2.out.trans (hb7.mono hbw2.out.size))
              have y7 := HY5.out w7 (HB2.out.trans (hb7.mono HB2.out.size))
              have x7 := HX0.out w7 hb7
              clear hb7 y5 x0
              cases hqv : hits.getD q false
              · have hw := HW1.out hqv
                rw [hqv] at y7
                clear hqv
                go_wp2_with fail
                go_roundw
                case rel => exact ⟨j + 1, by go_num, by omega, by rw [show ln + (j + 1) = ln2 + 1 by have := HLN.out; omega]; go_num, by rw [show rn + (j + 1 - sn) = rn2 + 1 by have := HRN.out; have := HJS.out; omega]; go_num, HB7.out⟩
                case measure => simp [intOf]; omega
              · have hw := HW2.out hqv
                rw [hqv] at y7
                clear hqv
                go_wp2_with fail
                refine (HQ.out w7).mono ?_
                rintro e8 w8 ⟨rfl, hb8⟩
                have HB8 := Lib.hid (HB7.out.trans (hb8.mono HB7.out.size))
                have x8 := (hb8.cell (p := ⟨bo, oo + j, none⟩) (by have := HB7.out.size; show bo < _; omega)).trans x7
                clear hb8 x7 y7
                go_wp2_with fail
                go_roundw
                case rel => exact ⟨j + 1, by go_num, by omega, by rw [show ln + (j + 1) = ln2 + 1 by have := HLN.out; omega]; go_num, by rw [show rn + (j + 1 - sn) = rn2 + 1 by have := HRN.out; have := HJS.out; omega]; go_num, HB8.out⟩
                case measure => simp [intOf]; omega
          · obtain rfl : j = L := by omega
            go_wp2_with fail
            go_roundw
            case rel =>
              have e1 : ln2 = ln + j := HLN.out.symm
              have e2 : rn2 = rn + k := by have := HRN.out; have := HL.out; omega
              refine ⟨i + 1, cn + 1, ln2, rn2, m', SX, hv6, by go_num, by omega, by go_num, rfl, rfl, ?_, ?_, ?_, ?_, HKO2.out, HTR6.out.below hbw2.out (Nat.le_refl _), HKV6.out, HB2.out⟩
              · have := HHK.out; simp at this; omega
              · omega
              · have := HL.out; have := HSK.out; omega
              · intro h1 h2; have g1 := HBK.out h1 h2; have g2 := hba.out h1 h2; simp at g1; omega
            case measure => simp [intOf]; omega
    · obtain rfl : i = n := by omega
      have j1 : (cn : Int) ≤ (rn : Int) := by omega
      have j2 : (rn : Int) ≤ (i : Int) := by omega
      have j3 : (ln : Int) ≤ 2 * (rn : Int) := by omega
      by_cases hz : 0 < b + a
      · have j4 : (0 : Int) < (b : Int) + (a : Int) := by omega
        go_wp2_with fail
        go_ret
        exact ⟨rfl, hbw.out⟩
      · have j4 : ¬ (0 : Int) < (b : Int) + (a : Int) := by omega
        obtain rfl := hba.out (by omega) (by omega)
        go_wp2_with fail
        go_ret
        exact ⟨rfl, hbw.out⟩
end Go.Proofs.YtbgmdjceecbbhaaDoor
