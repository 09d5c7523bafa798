/-
  The law CodeThrough of reedbedlaw01 returns true; no condition beyond those that each theorem states.
-/
import Derived.Test.YteigpmfhhmlgoaaPuts1
namespace Go.Proofs.Yteigpmfhhmlgoaa
open Go.RowKit Go.Rb

/-- Get gives a code point, and at least one octet, of those that are there. -/
theorem getP_fits (l : List UInt8) (h : l ≠ []) : isB (getP l).1 = true ∧ 1 ≤ (getP l).2 ∧ (getP l).2 ≤ l.length := by
  by_cases hb : getP l = badG
  · rw [hb]
    refine ⟨by decide, by decide, ?_⟩
    have : 0 < l.length := List.length_pos_iff.2 h
    show (1 : Int) ≤ _
    omega
  · obtain ⟨k, h1, h4, hk, ho⟩ := ok_of_getP l h hb
    rw [getP_of_ok l k hk ho]
    unfold okN at ho
    rw [Bool.and_eq_true] at ho
    exact ⟨ho.1, by show (1 : Int) ≤ (k : Int); omega, by show (k : Int) ≤ _; omega⟩

def allPut (rs : List Int) : List UInt8 := rs.flatMap putL
theorem allPut_snoc (rs : List Int) (r : Int) : allPut (rs ++ [r]) = allPut rs ++ putL r := by simp [allPut]
theorem allPut_len (rs : List Int) : (allPut rs).length ≤ 4 * rs.length := by
  induction rs with
  | nil => simp [allPut]
  | cons r rs ih =>
    have := putL_bd r
    simp only [allPut, List.flatMap_cons, List.length_append, List.length_cons] at ih ⊢
    omega
theorem Rd.drop_ {w : World} {B n k b off : Nat} {xs : List Value} (h : Rd w B 1 (some ⟨b, off, none⟩) n xs) (hk : k < n) : Rd w B 1 (some ⟨b, off + k, none⟩) (n - k) (xs.drop k) := by
  refine ⟨by rw [List.length_drop, h.1]; omega, fun _ => ?_⟩
  obtain ⟨b', off', hA, hlt, hc⟩ := h.2 (by omega)
  simp only [Option.some.injEq, Addr.mk.injEq, and_true] at hA
  obtain ⟨rfl, rfl⟩ := hA
  refine ⟨b, off + k, rfl, hlt, fun j hj => ?_⟩
  rw [Nat.add_assoc, hc (k + j) (by omega), List.getElem?_drop]

theorem extract_drop (s : ByteArray) (k : Nat) : (s.extract k s.size).data.toList = s.data.toList.drop k := by
  rw [ByteArray.data_extract, Array.toList_extract]
  unfold List.extract
  exact List.take_of_length_le (by rw [List.length_drop]; simp)
theorem rd_conv (W : World) (s : ByteArray) (cap : Nat) (t : TypeId) (fr : Nat × Nat) : Rd ((W.alloc (.cells (bytesRow s cap) t fr)).drew) (W.heap.size + 1) 1 (some ⟨W.heap.size, 0, none⟩) s.size (s.data.toList.map bV) := by
  refine ⟨by simp, fun _ => ⟨W.heap.size, 0, rfl, by omega, fun j hj => ?_⟩⟩
  have hj' : j < s.size := by omega
  show (W.alloc (.cells (bytesRow s cap) t fr)).cell? ⟨W.heap.size, 0 + j, none⟩ = _
  rw [Nat.zero_add, World.cell?_alloc_mark]
  unfold bytesRow
  rw [Array.getElem?_append_left (by simpa using hj')]
  simp [bV]
  rfl

set_option maxHeartbeats 2000000 in
theorem through_small (bs : List UInt8) (A : Option Addr) (n c : Nat) (w : World) (hr : Rd w w.heap.size 1 A n (bs.map bV)) (hn : n ≤ 200) (hc : n ≤ c) :
    Calls Try.prog 6 #[.slice A n c] w fun e w' => e = .returned (.bool true) ∧ Below w.heap.size w w' := by
  have hnl : bs.length = n := by simpa using hr.1
  have HA := Lib.hid hr
  have HNL := Lib.hid hnl
  clear hr hnl
  go_enter Try.func6, Try.ntmps6
  go_wp2_with fail
  refine (awake_any _).mono ?_
  rintro e w1 ⟨rfl, hb1⟩
  go_wp2_with fail
  go_loopw [3, 5] (fun s i wr => ∃ (k : Nat) (rs : List Int), k ≤ n ∧ rs.length ≤ k ∧ i = .int .i64 k ∧ s = .string ⟨(allPut rs).toArray⟩ ∧ Hid (∀ r ∈ rs, isB r = true) ∧ Below w.heap.size w wr) (fun _ i _ => n - (intOf i).toNat)
  case atStart => exact ⟨0, [], by omega, by simp, rfl, rfl, by simp [Hid], hb1⟩
  case round =>
    obtain ⟨k, rs, hk, hrk, rfl, rfl, hrs, hbw⟩ := hrel
    have HB := Lib.hid hbw
    clear hbw hb1
    by_cases hlt : k < n
    · obtain ⟨b, off, rfl, hb0, -⟩ := HA.out.2 (by omega)
      have hrd := Rd.drop_ (HA.out.below HB.out) hlt
      rw [← List.map_drop] at hrd
      have hne : bs.drop k ≠ [] := by
        intro h
        have := congrArg List.length h
        have hh := HNL.out
        simp at this
        omega
      have hf := getP_fits _ hne
      obtain ⟨⟨r, m⟩, hgp⟩ : ∃ p, getP (bs.drop k) = p := ⟨_, rfl⟩
      rw [hgp] at hf
      obtain ⟨hf1, hf2, hf3⟩ := hf
      dsimp only at hf1 hf2 hf3
      have hf4 : m ≤ (n : Int) - k := by have := HNL.out; simp at hf3; omega
      obtain ⟨m, rfl⟩ := Int.eq_ofNat_of_zero_le (show 0 ≤ m by omega)
      have HRD := Lib.hid hrd
      have HGP := Lib.hid hgp
      have HF1 := Lib.hid hf1
      have hpl := putL_bd r
      have hal := allPut_len rs
      clear hrd hgp hf1 hf3 hne
      have hck : ¬ c = k := by omega
      have HAS := Lib.hid (allPut_snoc rs r)
      generalize hX : allPut rs = X at *
      generalize hY : putL r = Y at *
      have HY := Lib.hid hY
      clear hX hY
      go_wp2_with fail
      refine (codeGet_any (bs.drop k) _ (n - k) _ w.heap.size _ HRD.out (by omega) (by omega)).mono ?_
      rw [HGP.out]
      rintro e w' ⟨rfl, rfl⟩
      go_wp2_with fail
      refine (codePut_any r _).mono ?_
      rintro e w2 ⟨v2, rfl, ho2, hb2, -⟩
      rw [HY.out] at ho2
      have hcv := conv_own ho2
      clear ho2
      have HB2 := Lib.hid (below_trans HB.out hb2)
      clear hb2
      go_wp2
      go_roundw
      case rel =>
        refine ⟨k + m, rs ++ [r], by omega, by simp; omega, by go_num, ?_, ?_, HB2.out⟩
        · rw [HAS.out, cat_]
        · intro x hx
          rcases List.mem_append.1 hx with h | h
          · exact hrs.out x h
          · rw [List.mem_singleton.1 h]; exact HF1.out
      case measure => simp [intOf]; omega
    · have hal := allPut_len rs
      have kb := fun (W : World) (s : ByteArray) => run_bytes_of_string (P := Try.prog) W 9 24 5 s Try.underlying9 Try.underlying24 Try.underlying5
      obtain ⟨S, hS⟩ : ∃ S : ByteArray, Hid (S = ⟨(allPut rs).toArray⟩) := ⟨_, rfl⟩
      have hSl : S.size = (allPut rs).length := by rw [hS.out]; simp [ByteArray.size]
      rw [← hS.out]
      have HSL := Lib.hid hSl
      have hS8 : (S.size : Int) ≤ 800 := by omega
      clear hSl hal
      go_wp2_with fail
      go_loopw [4, 8] (fun t i wr => ∃ (r1 r2 : List Int) (k : Nat), Hid (rs = r1 ++ r2) ∧ Hid (k = (allPut r1).length) ∧ k ≤ S.size ∧ i = .int .i64 k ∧ t = .string ⟨(allPut r1).toArray⟩ ∧ Below w.heap.size w wr) (fun _ i _ => S.size - (intOf i).toNat)
      case atStart => exact ⟨[], rs, 0, rfl, rfl, by omega, rfl, rfl, HB.out⟩
      case round =>
        obtain ⟨r1, r2, k2, hr12, hk2, hks, rfl, rfl, hbw2⟩ := hrel
        have HB2 := Lib.hid hbw2
        clear hbw2
        by_cases hlt2 : k2 < S.size
        · obtain ⟨r, r2, rfl⟩ : ∃ r r3, r2 = r :: r3 := by
            rcases r2 with _ | ⟨r, r3⟩
            · exfalso
              have h1 := hr12.out
              rw [List.append_nil] at h1
              have h2 := hk2.out
              have h3 := HSL.out
              rw [h1] at h3
              omega
            · exact ⟨r, r3, rfl⟩
          have hvr : isB r = true := hrs.out r (by rw [hr12.out]; simp)
          have hd : (S.extract k2 S.size).data.toList = putL r ++ allPut r2 := by
            rw [extract_drop, hS.out]
            show (allPut rs).drop k2 = _
            rw [hr12.out, hk2.out]
            simp [allPut]
          have hgp := get_put r (allPut r2)
          rw [if_pos hvr] at hgp
          have hss : sizeI r = ((putL r).length : Int) := by rw [putL_of hvr, putV_len r hvr]
          have hpl := putL_bd r
          have hal1 := allPut_len r1
          have hlen : k2 + (putL r).length ≤ S.size := by
            rw [HSL.out, hk2.out, hr12.out]
            simp [allPut]
          have HAS := Lib.hid (allPut_snoc r1 r)
          have hal2 : (allPut r1).length ≤ S.size := by rw [← hk2.out]; omega
          generalize hX : allPut r1 = X at *
          generalize hY : putL r = Y at *
          have HY := Lib.hid hY
          have HD := Lib.hid hd
          have HG := Lib.hid hgp
          have HSS := Lib.hid hss
          clear hX hY hd hgp hss hal1
          have hcap := grownCap_ge wr (S.size - k2) 0 5
          have hsx : (S.extract k2 S.size).size = S.size - k2 := by rw [ByteArray.size_extract]; omega
          have hrdc := rd_conv wr (S.extract k2 S.size) (grownCap wr (S.size - k2) 0 5) 5
          rw [hsx, HD.out] at hrdc
          have HRC := Lib.hid hrdc
          have HCAP := Lib.hid hcap
          clear hrdc hcap hsx
          go_wp2_with fail
          refine (codeGet_any (Y ++ allPut r2) _ (S.size - k2) _ _ _ (HRC.out _) HCAP.out (by omega)).mono ?_
          rw [HG.out]
          rintro e w' ⟨rfl, rfl⟩
          go_wp2_with fail
          refine (codeSize_any r _).mono ?_
          rw [HSS.out]
          rintro e w' ⟨rfl, rfl⟩
          go_wp2_with fail
          refine (codePut_any r _).mono ?_
          rintro e w2 ⟨v2, rfl, ho2, hb2, -⟩
          rw [HY.out] at ho2
          have hcv := conv_own ho2
          clear ho2
          have HB3 : Hid (Below w.heap.size w w2) := (below_trans (below_al HB2.out _).drew hb2)
          clear hb2
          go_wp2
          go_roundw
          case rel =>
            refine ⟨r1 ++ [r], r2, k2 + Y.length, ?_, ?_, by omega, by go_num, ?_, HB3.out⟩
            · show rs = _
              rw [hr12.out]; simp
            · show _ = _
              rw [HAS.out, List.length_append, ← hk2.out]
            · rw [HAS.out, cat_]
          case measure => simp [intOf]; omega
        · have hfin : allPut r1 = allPut rs := by
            have h1 := hk2.out
            have h2 := HSL.out
            have h3 := hr12.out
            rw [h3] at h2 ⊢
            have h4 : (allPut (r1 ++ r2)).length = (allPut r1).length + (allPut r2).length := by simp [allPut]
            have h5 : allPut r2 = [] := List.eq_nil_of_length_eq_zero (by omega)
            show _ = (r1 ++ r2).flatMap putL
            rw [List.flatMap_append]
            show _ = allPut r1 ++ allPut r2
            rw [h5, List.append_nil]
          have HE : Hid (((⟨(allPut r1).toArray⟩ : ByteArray)) = S) := by
            show _ = _
            rw [hfin]; exact hS.out.symm
          rw [HE.out]
          clear hfin
          go_wp2
          go_ret
          exact ⟨by simp, HB2.out⟩

set_option maxHeartbeats 400000 in
theorem through_any (bs : List UInt8) (A : Option Addr) (n c : Nat) (w : World) (hr : Rd w w.heap.size 1 A n (bs.map bV)) (hc : n ≤ c) :
    Calls Try.prog 6 #[.slice A n c] w fun e w' => e = .returned (.bool true) ∧ Below w.heap.size w w' := by
  by_cases hn : n ≤ 200
  · exact through_small bs A n c w hr hn hc
  · have hn' : (200 : Int) < (n : Int) := by omega
    clear hr
    go_enter Try.func6, Try.ntmps6
    go_wp2_with fail
    refine (awake_any _).mono ?_
    rintro e w1 ⟨rfl, hb1⟩
    go_wp2_with fail
    refine (awake_any _).mono ?_
    rintro e w2 ⟨rfl, hb2⟩
    go_wp2_with fail
    go_ret
    exact ⟨rfl, below_trans hb1 hb2⟩
end Go.Proofs.Yteigpmfhhmlgoaa
