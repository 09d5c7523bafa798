/-
  The law 'there and back' (DecodeBack): its walk; no condition beyond those that each theorem states.
-/
import Derived.Test.YtoagjhhdijebmaaDec6
namespace Go.Proofs.Ytoagjhhdijebmaa
open Go.RowKit Go.Rb
attribute [local irreducible] Go.wpQuiet

theorem encL_even (k : Int) (h2 : k = 2 ∨ k = 3) : ∀ rs : List Int, encL k rs = octsL k (rs.flatMap unitsL)
  | [] => rfl
  | r :: rs => by
    have e : encL k (r :: rs) = enc1 k r ++ encL k rs := rfl
    rw [e, encL_even k h2 rs, List.flatMap_cons]
    have h : enc1 k r = octsL k (unitsL r) := by unfold enc1; rw [if_neg (by omega)]
    rw [h]
    simp [octsL]
theorem unitsL_rng (r u : Int) (h : u ∈ unitsL r) : 0 ≤ u ∧ u < 65536 := by
  cases hb : isB r
  · rw [unitsL_wrong hb] at h; simp at h; omega
  · have hr := isB_true.1 hb
    by_cases h1 : r < 65536
    · rw [unitsL_lo hb h1] at h; simp at h; omega
    · rw [unitsL_hi hb h1] at h; simp at h; omega
theorem units_octs (k : Int) (h2 : k = 2 ∨ k = 3) : ∀ us : List Int, (∀ u ∈ us, 0 ≤ u ∧ u < 65536) → unitsB k (octsL k us) = us
  | [], _ => unitsB_nil k
  | u :: us, h => by
    have hu := h u (by simp)
    have ih := units_octs k h2 us (fun v hv => h v (by simp [hv]))
    have e : octsL k (u :: us) = octL k u ++ octsL k us := rfl
    have hl := loU_bd u
    have hh := hiU_bd u
    have hs : loU u + 256 * hiU u = u := by unfold loU hiU; omega
    have b1 := by_toNat (loU u) hl.1 hl.2
    have b2 := by_toNat (hiU u) hh.1 hh.2
    rcases h2 with rfl | rfl
    · rw [e, show octL 2 u = [by_ (loU u), by_ (hiU u)] from rfl]
      show unitsB 2 (by_ (loU u) :: by_ (hiU u) :: octsL 2 us) = _
      rw [unitsB_two 2 rfl, ih, pr, if_pos rfl, b1, b2, hs]
    · rw [e, show octL 3 u = [by_ (hiU u), by_ (loU u)] from rfl]
      show unitsB 3 (by_ (hiU u) :: by_ (loU u) :: octsL 3 us) = _
      rw [unitsB_two 3 rfl, ih, pr, if_neg (by decide), b1, b2, hs]
def mkOf (k : Int) : List UInt8 := if k = 1 then mk1 else if k = 2 then mk2 else mk3
theorem back_D (k : Int) (hk : okK k) (rs : List Int) : (D k true (encL k rs)).1 = allPut rs := by
  rcases hk with rfl | h
  · have e : encL 1 rs = allPut rs := by
      unfold encL allPut
      congr 1
    rw [e, D_text]
  · have h1 : ¬ k = 1 := by omega
    have h2 : twoP k = true := okK_two (.inr h) h1
    rw [D_units k h1 h2 _ _ (Nat.le_refl _), encL_even k h, units_octs k h _ (fun u hu => by
      rw [List.mem_flatMap] at hu
      obtain ⟨r, -, hr⟩ := hu
      exact unitsL_rng r u hr), JT_units]
    unfold oddT
    rw [if_neg, List.append_nil]
    rw [octsL_len k h2]
    omega
theorem back_T (k : Int) (hk : okK k) (rs : List Int) : T k (encL k rs) = allPut rs := by
  have h : 0 ≤ k ∧ k ≤ 3 ∧ ¬ k = 0 := by unfold okK at hk; omega
  unfold T refT
  rw [if_pos ⟨h.1, h.2.1⟩, if_neg h.2.2, back_D k hk]
theorem mark_of (k : Int) (hk : okK k) (y : List UInt8) : mkK (mkOf k ++ y) = (k, ((mkOf k).length : Int)) := by
  have p1 : ∀ m : List UInt8, prefB (m ++ y) m = true := fun m => (prefB_iff _ _).2 (List.prefix_append m y)
  rcases hk with rfl | rfl | rfl
  · have e : markP (mk1 ++ y) = (1, 3) := by unfold markP; rw [if_pos (p1 mk1)]
    show mkK (mk1 ++ y) = _
    unfold mkK; rw [e]; rfl
  · have n1 : prefB (mk2 ++ y) mk1 = false := by unfold prefB mk1 mk2; simp
    have e : markP (mk2 ++ y) = (2, 2) := by unfold markP; rw [n1, if_neg (by decide), if_pos (p1 mk2)]
    show mkK (mk2 ++ y) = _
    unfold mkK; rw [e]; rfl
  · have n1 : prefB (mk3 ++ y) mk1 = false := by unfold prefB mk1 mk3; simp
    have n2 : prefB (mk3 ++ y) mk2 = false := by unfold prefB mk2 mk3; simp
    have e : markP (mk3 ++ y) = (3, 2) := by unfold markP; rw [n1, if_neg (by decide), n2, if_neg (by decide), if_pos (p1 mk3)]
    show mkK (mk3 ++ y) = _
    unfold mkK; rw [e]; rfl
theorem back_T0 (k : Int) (hk : okK k) (rs : List Int) : T 0 (mkOf k ++ encL k rs) = allPut rs := by
  unfold T refT
  rw [if_pos (by decide), if_pos rfl, mark_of k hk]
  simp only [Int.toNat_natCast, List.drop_left]
  exact back_D k hk rs
theorem allPut_take (rs : List Int) (i : Nat) (h : i < rs.length) : allPut (rs.take (i + 1)) = allPut (rs.take i) ++ putL rs[i] := by
  unfold allPut
  rw [List.take_add_one, List.getElem?_eq_getElem h, List.flatMap_append]
  simp
theorem tmod3 (a : Int) : ∃ t q : Int, a.tmod 3 = t ∧ -3 < t ∧ t < 3 ∧ (t + 3).tmod 3 = q ∧ (t + 3) % 3 = q ∧ (q = 0 ∨ q = 1 ∨ q = 2) := by
  have h1 := Int.tmod_lt_of_pos a (show (0 : Int) < 3 by decide)
  have h2 := Int.lt_tmod_of_pos a (show (0 : Int) < 3 by decide)
  refine ⟨a.tmod 3, (a.tmod 3 + 3) % 3, rfl, h2, h1, ?_, rfl, by omega⟩
  exact Int.tmod_eq_emod_of_nonneg (by omega)
set_option maxRecDepth 20000 in
set_option maxHeartbeats 8000000 in
theorem back_small (a : Int) (rs : List Int) (mark : Bool) (A : Option Addr) (n c : Nat) (w : World) (hr : Rd w w.heap.size 1 A n (rs.map iV)) (hn : n ≤ 60) (ha : -9223372036854775808 ≤ a ∧ a ≤ 9223372036854775807) :
    Calls Try.prog 5 #[.int .i64 a, .slice A n c, .bool mark] w fun e w' => e = .returned (.bool true) ∧ Below w.heap.size w w' := by
  have HA : Hid (∀ w, Calls Try.prog 7 #[] w fun e w' => e = .returned (.bool true) ∧ Below w.heap.size w w') := awake_any
  obtain ⟨t, q, ht1, ht2, ht3, ht4, ht5, hq⟩ := tmod3 a
  have hrl : rs.length = n := by simpa using hr.1
  have HR := Lib.hid hr
  have HRL := Lib.hid hrl
  have HP := Lib.hid (fun r W => refPut_any r W)
  unfold strV at HP
  obtain ⟨k, hk⟩ : ∃ k : Int, 1 + q = k := ⟨_, rfl⟩
  have hok : okK k := by unfold okK; omega
  have HE := Lib.hid (fun W (hB : Below w.heap.size w W) => rencode_any k rs A n c w.heap.size W (hr.below hB) (by omega) hB.size)
  unfold strV at HE
  have hb1 := back_T k hok rs
  have hb0 := back_T0 k hok rs
  have hel := encL_bd k rs
  have hal := allPut_len rs
  have HAT := Lib.hid (fun i (h : i < rs.length) => allPut_take rs i h)
  have hfull : allPut (rs.take n) = allPut rs := by rw [← hrl, List.take_length]
  have HFULL := Lib.hid hfull
  have hle : ∀ i, (allPut (rs.take i)).length ≤ 240 := fun i => by
    have h1 := allPut_len (rs.take i)
    have h2 : (rs.take i).length ≤ n := by rw [List.length_take]; omega
    omega
  have HLE := Lib.hid hle
  have hD : ∀ kk x A m c W, x.length = m → m ≤ 1000 → T kk x = allPut rs → Rd W W.heap.size 1 A m (x.map bV) → Calls Try.prog 13 #[.int .i64 kk, .slice A m c] W fun e w' => e = .returned (.string ⟨(allPut rs).toArray⟩) ∧ Below W.heap.size W w' := fun kk x A m c W h1 h2 h3 hr => by
    have := dtext_any kk x A m c W hr (by omega)
    rwa [h3] at this
  have HDT := Lib.hid (fun A c W hr => hD k (encL k rs) A (encL k rs).length c W rfl (by omega) hb1 hr)
  have HDM := Lib.hid (fun A c W hr => hD 0 (mkOf k ++ encL k rs) A (mkOf k ++ encL k rs).length c W rfl (by rw [List.length_append]; have : (mkOf k).length ≤ 3 := (by unfold mkOf; split; decide; split <;> decide); omega) hb0 hr)
  have HCAT := Lib.hid (cat_ (mkOf k) (encL k rs))
  obtain ⟨E, hE⟩ : ∃ E, encL k rs = E := ⟨_, rfl⟩
  rw [hE] at HE HDT HDM HCAT hel
  have HRC : Hid (∀ (x : List UInt8) (W : World) (cap : Nat) (fr : Nat × Nat), Rd ((W.alloc (.cells (bytesRow ⟨x.toArray⟩ cap) 5 fr)).drew) (W.heap.size + 1) 1 (some ⟨W.heap.size, 0, none⟩) x.length (x.map bV)) := fun x W cap fr => rd_conv W ⟨x.toArray⟩ cap 5 fr
  have i1 : ¬ (60 : Int) < (n : Int) := by omega
  have w1' : IntKind.i64.wrap (t + 3) = t + 3 := IntWalk.i64_in _ (by omega)
  clear hr hrl hok hb1 hb0 hE hD hal hfull hle
  have hcs : (q = 0 ∧ k = 1) ∨ (q = 1 ∧ k = 2) ∨ (q = 2 ∧ k = 3) := by omega
  have HTQ := Lib.hid (And.intro ht4 ht5)
  clear hk hq ht4 ht5
  have kb := fun (W : World) (s : ByteArray) => run_bytes_of_string (P := Try.prog) W 9 22 5 s Try.underlying9 Try.underlying22 Try.underlying5
  have KB := Lib.hid kb
  have ht4 := HTQ.out.1
  have ht5 := HTQ.out.2
  clear kb
  rcases hcs with ⟨rfl, rfl⟩ | ⟨rfl, rfl⟩ | ⟨rfl, rfl⟩
  case' inl => have HM : ∃ M : List UInt8, mkOf 1 = M ∧ M = [239, 187, 191] := ⟨_, rfl, rfl⟩
  case' inr.inl => have HM : ∃ M : List UInt8, mkOf 2 = M ∧ M = [255, 254] := ⟨_, rfl, rfl⟩
  case' inr.inr => have HM : ∃ M : List UInt8, mkOf 3 = M ∧ M = [254, 255] := ⟨_, rfl, rfl⟩
  all_goals
    go_enter Try.func5, Try.ntmps5
    go_wp2_with (go_at_call 7; refine (HA.out _).mono ?_; rintro e1 w1 ⟨rfl, hb1⟩; have HB1 := Lib.hid hb1; clear hb1)
    go_loopw [8, 9] (fun sv iv wr => ∃ i : Nat, i ≤ n ∧ sv = .string ⟨(allPut (rs.take i)).toArray⟩ ∧ iv = .int .i64 i ∧ Hid (Below w.heap.size w wr)) (fun _ iv _ => n - (intOf iv).toNat)
    case' atStart => exact ⟨0, by omega, rfl, rfl, HB1.out⟩
    case' round =>
      obtain ⟨i, hi, rfl, rfl, hbw⟩ := hrel
      have hle := HLE.out i
      have hzo : (⟨(allPut (rs.take i)).toArray⟩ : ByteArray).size = (allPut (rs.take i)).length := rfl
      by_cases hlt : i < n
      · have hil : i < rs.length := by rw [HRL.out]; exact hlt
        obtain ⟨pb, po, rfl, hpb, hcell⟩ := HR.out.2 (by omega)
        have x0 := hcell i (by omega)
        rw [List.getElem?_map, List.getElem?_eq_getElem hil, Option.map_some, iV] at x0
        have x1 := (hbw.out.cell (p := ⟨pb, po + i, none⟩) hpb).trans x0
        have hat := HAT.out i hil
        have hcat := cat_ (allPut (rs.take i)) (putL rs[i])
        rw [← hat] at hcat
        have HCATI := Lib.hid hcat
        have hpb2 := putL_bd rs[i]
        have hzp : (⟨(putL rs[i]).toArray⟩ : ByteArray).size = (putL rs[i]).length := rfl
        have HPI := Lib.hid (fun W => HP.out rs[i] W)
        generalize rs[i] = r at *
        have i2 : (i : Int) < (n : Int) := by omega
        have i3 : (0 : Int) ≤ (i : Int) := by omega
        clear hcell x0 hat hcat hil
        generalize (allPut (rs.take i)).length = la at *
        generalize (putL r).length = lp at *
        generalize (⟨(allPut (rs.take i)).toArray⟩ : ByteArray) = ba at *
        generalize (⟨(putL r).toArray⟩ : ByteArray) = bp at *
        go_wp2_with (go_at_call 15; refine (HPI.out _).mono ?_; rintro e2 w2 ⟨rfl, hb2⟩; have HB2 := Lib.hid (below_trans hbw.out hb2); clear hb2)
        go_roundw
        case rel => exact ⟨i + 1, by omega, by rw [HCATI.out], by go_num, HB2.out⟩
        case measure => simp [intOf]; omega
      · obtain rfl : i = n := by omega
        rw [HFULL.out]
        have hze : (⟨E.toArray⟩ : ByteArray).size = E.length := rfl
        cases mark with
        | false =>
          have HRCE := Lib.hid (fun W cap fr => HRC.out E W cap fr)
          have kb := fun W => KB.out W ⟨E.toArray⟩
          rw [hze] at kb
          clear HDM HCAT HRC hle hzo
          generalize E.length = le at *
          generalize (⟨E.toArray⟩ : ByteArray) = be at *
          generalize (⟨(allPut rs).toArray⟩ : ByteArray) = bw at *
          go_wp2_with (first
            | (go_at_call 16; refine (HE.out _ hbw.out).mono ?_; rintro e3 w3 ⟨rfl, hb3⟩; have HB3 := Lib.hid (below_trans hbw.out hb3); clear hb3)
            | (go_at_call 13; go_loud (refine (HDT.out _ _ _ ((HRCE.out _ _ _).more (by simp))).mono ?_); rintro e4 w4 ⟨rfl, hb4⟩; have HB4 := Lib.hid (below_trans HB3.out (below_trans ((below_al (Below.refl _ w3) _).drew) hb4)); clear hb4))
          go_ret
          exact ⟨by simp, HB4.out⟩
        | true =>
          obtain ⟨M, hM1, hM2⟩ := HM
          rw [hM1] at HDM HCAT
          have hcm := HCAT.out
          have hlm : (M ++ E).length ≤ 1000 := by have h1 := HRL.out; rw [List.length_append, hM2]; simp only [List.length_cons, List.length_nil]; omega
          obtain ⟨lm, hlm'⟩ : ∃ m, (M ++ E).length = m := ⟨_, rfl⟩
          have hsz : ((⟨M.toArray⟩ : ByteArray) ++ ⟨E.toArray⟩).size = lm := by rw [hcm]; exact hlm'
          have HRCM : Hid (∀ (W : World) (cap : Nat) (fr : Nat × Nat) (g : Nat), g = W.heap.size → Rd ((W.alloc (.cells (bytesRow ((⟨M.toArray⟩ : ByteArray) ++ ⟨E.toArray⟩) cap) 5 fr)).drew) ((W.alloc (.cells (bytesRow ((⟨M.toArray⟩ : ByteArray) ++ ⟨E.toArray⟩) cap) 5 fr)).drew).heap.size 1 (some ⟨g, 0, none⟩) lm ((M ++ E).map bV)) := fun W cap fr g hg => by
            subst hg
            rw [hcm]
            have := HRC.out (M ++ E) W cap fr
            rw [hlm'] at this
            exact this.more (by simp)
          have kb := fun W => KB.out W ((⟨M.toArray⟩ : ByteArray) ++ ⟨E.toArray⟩)
          rw [hsz] at kb
          rw [hlm'] at HDM hlm
          have hel2 : E.length ≤ 240 := by have h1 := HRL.out; omega
          clear HDT HCAT HRC hle hzo hcm hsz hlm' hM1 hel
          subst hM2
          generalize E.length = le at *
          generalize (⟨E.toArray⟩ : ByteArray) = be at *
          generalize (⟨(allPut rs).toArray⟩ : ByteArray) = bw at *
          go_wp2_with (first
            | (go_at_call 16; refine (HE.out _ hbw.out).mono ?_; rintro e3 w3 ⟨rfl, hb3⟩; have HB3 := Lib.hid (below_trans hbw.out hb3); clear hb3)
            | (go_at_call 13; go_loud (refine (HDM.out _ _ _ (HRCM.out _ _ _ _ (by simp))).mono ?_); rintro e4 w4 ⟨rfl, hb4⟩; have HB4 := Lib.hid (below_trans HB3.out (below_trans ((below_al (below_al (Below.refl _ w3) _) _).drew) hb4)); clear hb4))
          go_ret
          exact ⟨by simp, HB4.out⟩
theorem back_any (a : Int) (rs : List Int) (mark : Bool) (A : Option Addr) (n c : Nat) (w : World) (hr : Rd w w.heap.size 1 A n (rs.map iV)) (ha : -9223372036854775808 ≤ a ∧ a ≤ 9223372036854775807) :
    Calls Try.prog 5 #[.int .i64 a, .slice A n c, .bool mark] w fun e w' => e = .returned (.bool true) ∧ Below w.heap.size w w' := by
  by_cases h : n ≤ 60
  · exact back_small a rs mark A n c w hr h ha
  · have HA : Hid (∀ w, Calls Try.prog 7 #[] w fun e w' => e = .returned (.bool true) ∧ Below w.heap.size w w') := awake_any
    have i1 : (60 : Int) < (n : Int) := by omega
    clear h
    go_enter Try.func5, Try.ntmps5
    go_wp2_with (first
      | (go_at_call 7; refine (HA.out _).mono ?_; rintro e2 w2 ⟨rfl, hb2⟩; have HB2 := Lib.hid (below_trans HB1.out hb2); clear hb2)
      | (go_at_call 7; refine (HA.out _).mono ?_; rintro e1 w1 ⟨rfl, hb1⟩; have HB1 := Lib.hid hb1; clear hb1))
    go_ret
    exact ⟨rfl, HB2.out⟩
end Go.Proofs.Ytoagjhhdijebmaa
