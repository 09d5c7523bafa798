/-
  the contracts of reedbedref11.last and of reedbedref11.Longest; the contract of reedbedref11.Longest: its walk; the contract of reedbedref11.First; the contract of reedbedref11.All; the contracts of match.First, and of match's three of a program that isn't right; match's three of a program that isn't right; the contract of reedbedref11.Same; no condition beyond those that each theorem states.
-/
import Derived.Test.YtjfkppbfckgckaaG12
import Derived.BigQuiet
import Derived.Deep.Cut
set_option linter.unusedVariables false
set_option linter.unusedSimpArgs false
namespace Go.Proofs.Ytjfkppbfckgckaa
open Go.RowKit Go.Rb
attribute [local irreducible] Go.wpQuiet
set_option maxRecDepth 20000

/-- The last true one. -/
def lastB (l : List Bool) : Nat → Option Nat
  | 0 => none
  | k + 1 => if l[k]? = some true then some k else lastB l k
def optV : Option Nat → Value
  | none => .int .i64 (-1)
  | some k => .int .i64 (k : Int)
set_option maxHeartbeats 1000000 in
theorem last_any (l : List Bool) (go n : Nat) (w : World) (hb : Blk w go 4 (l.map bV_).toArray) (hl : l.length = n) (hn : n ≤ 1000) :
    Calls Try.prog 33 #[.slice (some ⟨go, 0, none⟩) n n] w fun e w' => e = .returned (optV (lastB l n)) ∧ w' = w := by
  have HB := Lib.hid hb
  have HL := Lib.hid hl
  obtain ⟨R, hR⟩ : ∃ R, lastB l n = R := ⟨_, rfl⟩
  have HR := Lib.hid hR
  rw [hR]
  have hgl := hb.lt
  clear hb hl hR
  go_enter Try.func33, Try.ntmps33
  go_wp2_with fail
  go_loopw [3] (fun iv wr => ∃ i : Nat, iv = .int .i64 ((i : Int) - 1) ∧ i ≤ n ∧ wr = w ∧ Hid (lastB l i = R)) (fun iv _ => (intOf iv + 1).toNat)
  case atStart => exact ⟨n, by go_num, Nat.le_refl _, rfl, HR.out⟩
  case round =>
  obtain ⟨i, rfl, hin, hw, HI⟩ := hrel
  subst hw
  cases i with
  | zero =>
    have HF : Hid (R = none) := HI.out.symm
    go_wp2_with fail
    go_returns
    exact ⟨by rw [HF.out]; rfl, rfl⟩
  | succ i =>
    obtain ⟨b, hbi⟩ : ∃ b, l[i]? = some b := ⟨_, List.getElem?_eq_getElem (by rw [HL.out]; omega)⟩
    have c0 := HB.out.cell i
    simp only [List.getElem?_toArray, List.getElem?_map, hbi, Option.map_some, bV_] at c0
    have HBI := Lib.hid hbi
    have hii : ((i + 1 : Nat) : Int) - 1 = (i : Int) := by omega
    rw [hii]
    clear hbi hii
    cases b with
    | true =>
      have HF : Hid (R = some i) := by show _ = _; rw [← HI.out, lastB, if_pos HBI.out]
      go_wp2_with fail
      go_returns
      exact ⟨by rw [HF.out]; rfl, rfl⟩
    | false =>
      have HF : Hid (lastB l i = R) := by show _ = _; rw [← HI.out, lastB, if_neg (by rw [HBI.out]; simp)]
      go_wp2_with fail
      go_roundw
      case rel => exact ⟨i, by go_num, by omega, trivial, HF.out⟩
      case measure => simp [intOf] <;> omega
theorem lastB_is {p : List Ins} {rs : List Int} {k0 : Nat} {ot : List Bool} (hk0 : k0 ≤ rs.length) (hl : ot.length = rs.length + 1) (h : ∀ k : Nat, ot[k]? = some true ↔ Acc p rs k0 k) : IsLast p rs k0 (lastB ot (rs.length + 1)) := by
  have hle : ∀ k, Acc p rs k0 k → k < rs.length + 1 := fun k ⟨i, t, hr, _⟩ => by have := reach_le hk0 hr; omega
  have key : ∀ q, (∀ k, q ≤ k → ¬ Acc p rs k0 k) → IsLast p rs k0 (lastB ot q) := by
    intro q
    induction q with
    | zero => intro hq k; exact hq k (Nat.zero_le _)
    | succ q ih =>
      intro hq
      rw [lastB]
      split
      · rename_i ht
        exact ⟨(h q).1 ht, fun k hk => hq k hk⟩
      · rename_i ht
        refine ih fun k hk => ?_
        rcases Nat.lt_or_ge q k with h1 | h1
        · exact hq k h1
        · obtain rfl : k = q := by omega
          exact fun ha => ht ((h k).2 ha)
  exact key _ fun k hk ha => by have := hle k ha; omega
end Go.Proofs.Ytjfkppbfckgckaa
namespace Go.Proofs.Ytjfkppbfckgckaa
open Go.RowKit Go.Rb
attribute [local irreducible] Go.wpQuiet
set_option maxRecDepth 20000

set_option maxHeartbeats 4000000 in
theorem refLong_any {p : List Ins} {n : Nat} (hn : p.length = n) (hn0 : 0 < n) (hn2 : n ≤ 200) (hok : RightI p) (hset : ∀ (i : Nat) (t : Ins), p[i]? = some t → t.set.length ≤ 1000) {s : ByteArray} (hs8 : s.size ≤ 60) {A : Option Addr} {cp : Nat} (hcp : n ≤ cp) {L : Nat → Option Nat} (hL : ∀ k, k ≤ (decT s).length → IsLast p (rsL s) k (L k)) (z : Int) (w : World) {B : Nat} (hB : B ≤ w.heap.size) (hP : PRd w B A p) :
    Calls Try.prog 19 #[.slice A n cp, .string s, .int .i64 z] w fun e w' => (∃ r, LongIs s L z r ∧ e = .returned (longV s r)) ∧ Below w.heap.size w w' := by
  have hml := decT_len s
  have hrl0 : (rsL s).length ≤ 100 := by rw [rsL, List.length_map]; omega
  have HRUN := Lib.hid (fun (k0 : Nat) (hk0 : k0 ≤ (rsL s).length) (W : World) (Ar : Option Addr) (cr : Nat) (hcr : (rsL s).length ≤ cr) (B' : Nat) (hB' : B' ≤ W.heap.size) (hP' : PRd W B' A p) (hR' : Rd W B' 1 Ar (rsL s).length ((rsL s).map iV)) => run_any (rs := rsL s) (m := (rsL s).length) hn hn0 hn2 hok hset rfl hrl0 hcp hcr k0 hk0 W hB' hP' hR')
  obtain ⟨m, hm⟩ : ∃ m, (decT s).length = m := ⟨_, rfl⟩
  have hrl : (rsL s).length = m := by rw [rsL, List.length_map, hm]
  have HM := Lib.hid hm
  have HRL := Lib.hid hrl
  have HP := Lib.hid hP
  have HBW := Lib.hid hB
  have HL := Lib.hid hL
  rw [hm] at hml HL
  have HOF := Lib.hid (of_any s w (by omega))
  clear hn hok hset hL hP hB hm hrl
  go_enter Try.func19, Try.ntmps19
  go_wp2_with fail
  refine HOF.out.mono ?_
  rintro e1 w1 ⟨vr, va, rfl, hzr, hza, -, -, hb1⟩
  obtain ⟨q, off, ca, rfl, hca, -, hpv⟩ := pv_new hza
  obtain ⟨Ar, cr, rfl, hcr, -⟩ := Own.len_ hzr
  rw [HM.out] at hca hpv ⊢
  have hrd := Own.rd hzr
  rw [HRL.out] at hcr hrd ⊢
  have HRD := Lib.hid hrd
  have HB1 := Lib.hid hb1
  have HPV := Lib.hid hpv
  have HCR := Lib.hid hcr
  have hs1 := hb1.size
  clear hzr hza hb1 hpv hrd HOF hcr
  go_upto_region 2 with fail
  have hbl : Below w1.heap.size w1 (w1.alloc (.cells #[.slice Ar m cr, .slice (some ⟨q, off, none⟩) (m + 1) ca] 41)) := below_al (Below.refl _ _) _
  have htb := Blk.new w1 41 #[.slice Ar m cr, .slice (some ⟨q, off, none⟩) (m + 1) ca]
  generalize w1.alloc (.cells #[.slice Ar m cr, .slice (some ⟨q, off, none⟩) (m + 1) ca] 41) = w2 at hbl htb ⊢
  obtain ⟨tt, htt⟩ : ∃ tt, w1.heap.size = tt := ⟨_, rfl⟩
  rw [htt] at htb ⊢
  have HB2 := Lib.hid (below_trans HB1.out hbl)
  have HPV2 := Lib.hid (HPV.out.under hbl)
  have HRD2 := Lib.hid (HRD.out.below hbl)
  have HTB := Lib.hid htb
  have HS12 : Hid (w1.heap.size ≤ w2.heap.size) := hbl.size
  clear hbl htb htt
  have y0 := HTB.out.cell 0
  have y1 := HTB.out.cell 1
  have htl := HTB.out.lt
  simp only [List.getElem?_toArray, List.getElem?_cons_succ, List.getElem?_cons_zero] at y0 y1
  go_wp2_with fail
  go_loopw [9] (fun iv wr => ∃ j : Nat, iv = .int .i64 (j : Int) ∧ j ≤ m + 1 ∧ wr = w2 ∧ Hid (∀ k, k < j → (AtF (decT s) k : Int) ≠ z)) (fun iv _ => m + 1 - (intOf iv).toNat)
  case atStart => exact ⟨0, rfl, by omega, rfl, fun k h => by omega⟩
  case round =>
  obtain ⟨j, rfl, hjm, hw, HNE⟩ := hrel
  subst hw
  by_cases hj : j < m + 1
  · obtain ⟨off', hoff, hq3, hcell⟩ := HPV2.out.at_ (by omega)
    simp only [Option.some.injEq, Addr.mk.injEq, true_and, and_true] at hoff
    subst hoff
    have c0 := hcell j hj
    rw [Nat.zero_add] at c0
    have HCELL := Lib.hid hcell
    obtain ⟨xa, hxa⟩ : ∃ xa, AtF (decT s) j = xa := ⟨_, rfl⟩
    have HXA := Lib.hid hxa
    rw [hxa] at c0
    clear hxa hcell
    by_cases he : (xa : Int) = z
    · subst he
      have hcall := HRUN.out j (by rw [HRL.out]; omega) wr Ar cr (by rw [HRL.out]; exact HCR.out) w1.heap.size HS12.out (((HP.out.below (HB2.out.mono HBW.out)).more (Nat.le_trans HBW.out hs1))) (by rw [HRL.out]; exact HRD2.out)
      rw [HRL.out] at hcall
      have HCALL := Lib.hid hcall
      clear hcall
      go_wp2_with fail
      refine HCALL.out.mono ?_
      rintro e4 w4 ⟨go, ot, rfl, hbo, hol, hacc, -, hb4⟩
      have hlast := lastB_is (k0 := j) (by rw [HRL.out]; omega) hol hacc
      rw [HRL.out] at hol hlast ⊢
      have hoL : lastB ot (m + 1) = L j := IsLast.fn hlast (HL.out j (by omega))
      have HLA := Lib.hid (last_any ot go (m + 1) w4 hbo hol (by omega))
      have htb4 := HTB.out.below hb4 htl
      have hle : ∀ e, L j = some e → j ≤ e ∧ e ≤ m := fun e he => by
        have := HL.out j (by omega)
        rw [he] at this
        have := isLast_le (by rw [HM.out]; omega) this
        rw [HM.out] at this
        exact this
      have HLE := Lib.hid hle
      have HB4 := Lib.hid (below_trans HB2.out hb4)
      have HPV4 := Lib.hid (HPV2.out.under hb4)
      have HIS : Hid (LongIs s L (xa : Int) (lastB ot (m + 1))) := by
        refine ⟨fun k hk e => ?_, fun h => absurd (by rw [HXA.out]) (h j (by rw [HM.out]; omega))⟩
        have : k = j := AtF_inj s hk (by rw [HM.out]; omega) (by rw [HXA.out]; omega)
        rw [this, hoL]
      obtain ⟨o, ho⟩ : ∃ o, lastB ot (m + 1) = o := ⟨_, rfl⟩
      rw [ho] at HLA HIS hoL
      have HOL := Lib.hid hoL
      have z1 := htb4.cell 1
      have htl4 := htb4.lt
      simp only [List.getElem?_toArray, List.getElem?_cons_succ, List.getElem?_cons_zero] at z1
      clear hbo hol hacc hb4 hlast hoL ho htb4 hle HCALL y0 y1 htl
      go_wp2_with fail
      refine HLA.out.mono ?_
      rintro e5 w5' ⟨rfl, hw5⟩
      obtain rfl := hw5.symm
      clear HLA
      cases o with
      | none =>
        rw [show optV none = .int .i64 (-1) from rfl]
        go_wp2_with fail
        go_returns
        exact ⟨⟨none, HIS.out, rfl⟩, HB4.out⟩
      | some e =>
        rw [show optV (some e) = .int .i64 (e : Int) from rfl]
        have he2 := HLE.out e HOL.out.symm
        obtain ⟨off2, hoff2, hq4, hcell4⟩ := HPV4.out.at_ (by omega)
        simp only [Option.some.injEq, Addr.mk.injEq, true_and, and_true] at hoff2
        subst hoff2
        have c1 := hcell4 e (by omega)
        rw [Nat.zero_add] at c1
        obtain ⟨xe, hxe⟩ : ∃ xe, AtF (decT s) e = xe := ⟨_, rfl⟩
        have HXE := Lib.hid hxe
        rw [hxe] at c1
        have hel : e < m + 1 := by omega
        clear hxe hcell4 he2
        go_wp2_with fail
        go_returns
        exact ⟨⟨some e, HIS.out, by rw [longV, HXE.out]; rfl⟩, HB4.out⟩
    · have HNE2 : Hid (∀ k, k < j + 1 → (AtF (decT s) k : Int) ≠ z) := fun k h => by
        rcases Nat.lt_or_ge k j with h' | h'
        · exact HNE.out k h'
        · obtain rfl : k = j := by omega
          rw [HXA.out]; exact he
      have he2 : ((xa : Int) == z) = false := by simpa using he
      go_wp2_with fail
      go_roundw
      case rel => exact ⟨j + 1, by go_num, by omega, trivial, HNE2.out⟩
      case measure => simp [intOf] <;> omega
  · have HNO : Hid (LongIs s L z none) := ⟨fun k hk e => absurd e (HNE.out k (by rw [HM.out] at hk; omega)), fun _ => rfl⟩
    go_wp2_with fail
    go_returns
    exact ⟨⟨none, HNO.out, rfl⟩, HB2.out⟩
end Go.Proofs.Ytjfkppbfckgckaa
namespace Go.Proofs.Ytjfkppbfckgckaa
open Go.RowKit Go.Rb
attribute [local irreducible] Go.wpQuiet
set_option maxRecDepth 20000

theorem firstL_hit {L : Nat → Option Nat} {j e : Nat} (hj : L j = some e) : ∀ (f g : Nat), (∀ k, g ≤ k → k < j → L k = none) → g ≤ j → j < g + f → firstL L f g = some (j, e)
  | 0, g, _, h1, h2 => by omega
  | f + 1, g, hn, h1, h2 => by
    rw [firstL]
    by_cases hgj : g = j
    · subst hgj; rw [hj]
    · rw [hn g (Nat.le_refl _) (by omega)]
      exact firstL_hit hj f (g + 1) (fun k hk => hn k (by omega)) (by omega) (by omega)
theorem firstL_none {L : Nat → Option Nat} : ∀ (f g : Nat), (∀ k, g ≤ k → k < g + f → L k = none) → firstL L f g = none
  | 0, g, _ => rfl
  | f + 1, g, hn => by
    rw [firstL, hn g (Nat.le_refl _) (by omega)]
    exact firstL_none f (g + 1) fun k h1 h2 => hn k (by omega) (by omega)
/-- What First finds, from a number on. -/
def FirstIs (s : ByteArray) (L : Nat → Option Nat) (z : Int) (R : Option (Nat × Nat)) : Prop := ∀ g, IsFrom s 0 z g → R = firstL L ((decT s).length + 1 - g) g
set_option maxHeartbeats 4000000 in
theorem refFirst_any {p : List Ins} {n : Nat} (hn : p.length = n) (hn0 : 0 < n) (hn2 : n ≤ 200) (hok : RightI p) (hset : ∀ (i : Nat) (t : Ins), p[i]? = some t → t.set.length ≤ 1000) {s : ByteArray} (hs8 : s.size ≤ 60) {A : Option Addr} {cp : Nat} (hcp : n ≤ cp) {L : Nat → Option Nat} (hL : ∀ k, k ≤ (decT s).length → IsLast p (rsL s) k (L k)) (z : Int) (w : World) {B : Nat} (hB : B ≤ w.heap.size) (hP : PRd w B A p) :
    Calls Try.prog 21 #[.slice A n cp, .string s, .int .i64 z] w fun e w' => (∃ R, FirstIs s L z R ∧ (∀ a e, R = some (a, e) → a ≤ e ∧ e ≤ (decT s).length) ∧ e = .returned (.tuple #[hitV s R, .bool R.isSome])) ∧ Below w.heap.size w w' := by
  have hml := decT_len s
  have HLO := Lib.hid (fun (z : Int) (W : World) (B' : Nat) (hB' : B' ≤ W.heap.size) (hP' : PRd W B' A p) => refLong_any hn hn0 hn2 hok hset hs8 hcp hL z W hB' hP')
  obtain ⟨m, hm⟩ : ∃ m, (decT s).length = m := ⟨_, rfl⟩
  have hLE : ∀ j e, j ≤ m → L j = some e → j ≤ e ∧ e ≤ m := fun j e hj he => by
    have := hL j (by omega)
    rw [he] at this
    have := isLast_le (by omega) this
    omega
  have HLE := Lib.hid hLE
  have HM := Lib.hid hm
  have HP := Lib.hid hP
  have HBW := Lib.hid hB
  rw [hm] at hml
  have hal := below_al (Below.refl w.heap.size w) (.cells #[.int .i64 0, .int .i64 0] 33)
  have HOF := Lib.hid (of_any s (w.alloc (.cells #[.int .i64 0, .int .i64 0] 33)) (by omega))
  have HRB := Lib.hid (Blk.new w 33 #[.int .i64 0, .int .i64 0])
  have HAL := Lib.hid hal
  clear hn hok hset hL hP hB hm hLE hal
  go_enter Try.func21, Try.ntmps21
  go_upto_region 1 with fail
  generalize w.alloc (.cells #[.int .i64 0, .int .i64 0] 33) = w0 at HOF HRB HAL ⊢
  go_wp2_with fail
  refine HOF.out.mono ?_
  rintro e1 w1 ⟨vr, va, rfl, hzr, hza, -, -, hb1⟩
  obtain ⟨q, off, ca, rfl, hca, -, hpv⟩ := pv_new hza
  obtain ⟨Ar, cr, rfl, -, -⟩ := Own.len_ hzr
  rw [HM.out] at hca hpv ⊢
  have HB1 := Lib.hid (below_trans HAL.out (hb1))
  have HPV := Lib.hid hpv
  have hrb1 := HRB.out.below hb1 HRB.out.lt
  have HRB1 := Lib.hid hrb1
  have hs1 := HB1.out.size
  clear hzr hza hb1 hpv HOF hrb1
  go_upto_region 2 with fail
  have hbl : Below w1.heap.size w1 (w1.alloc (.cells #[.slice Ar (rsL s).length cr, .slice (some ⟨q, off, none⟩) (m + 1) ca] 41)) := below_al (Below.refl _ _) _
  have htb := Blk.new w1 41 #[.slice Ar (rsL s).length cr, .slice (some ⟨q, off, none⟩) (m + 1) ca]
  generalize w1.alloc (.cells #[.slice Ar (rsL s).length cr, .slice (some ⟨q, off, none⟩) (m + 1) ca] 41) = w2 at hbl htb ⊢
  obtain ⟨tt, htt⟩ : ∃ tt, w1.heap.size = tt := ⟨_, rfl⟩
  rw [htt] at htb ⊢
  have HB2 := Lib.hid (below_trans HB1.out hbl)
  have HPV2 := Lib.hid (HPV.out.under hbl)
  have HTB := Lib.hid htb
  have HRB2 := Lib.hid (HRB1.out.below hbl HRB1.out.lt)
  clear hbl htb htt
  go_wp2_with fail
  go_loopw [9] (fun iv wr => ∃ j : Nat, iv = .int .i64 (j : Int) ∧ j ≤ m + 1 ∧ Hid (Below w2.heap.size w2 wr) ∧ Hid (∀ k, k < j → (AtF (decT s) k : Int) < z ∨ L k = none)) (fun iv _ => m + 1 - (intOf iv).toNat)
  case atStart => exact ⟨0, rfl, by omega, Below.refl _ _, fun k h => by omega⟩
  case round =>
  obtain ⟨j, rfl, hjm, HBR, HNE⟩ := hrel
  have htb := HTB.out.below HBR.out HTB.out.lt
  have y1 := htb.cell 1
  have htl := htb.lt
  simp only [List.getElem?_toArray, List.getElem?_cons_succ, List.getElem?_cons_zero] at y1
  have HBW2 := Lib.hid (below_trans HB2.out HBR.out)
  clear htb
  by_cases hj : j < m + 1
  · obtain ⟨off', hoff, hq3, hcell⟩ := (HPV2.out.under HBR.out).at_ (by omega)
    simp only [Option.some.injEq, Addr.mk.injEq, true_and, and_true] at hoff
    subst hoff
    have c0 := hcell j hj
    rw [Nat.zero_add] at c0
    obtain ⟨xa, hxa⟩ : ∃ xa, AtF (decT s) j = xa := ⟨_, rfl⟩
    have HXA := Lib.hid hxa
    rw [hxa] at c0
    clear hxa hcell
    by_cases he : (xa : Int) < z
    · have HNE2 : Hid (∀ k, k < j + 1 → (AtF (decT s) k : Int) < z ∨ L k = none) := fun k h => by
        rcases Nat.lt_or_ge k j with h' | h'
        · exact HNE.out k h'
        · obtain rfl : k = j := by omega
          exact .inl (by rw [HXA.out]; exact he)
      go_wp2_with fail
      go_roundw
      case rel => exact ⟨j + 1, by go_num, by omega, HBR.out, HNE2.out⟩
      case measure => simp [intOf] <;> omega
    · have HCALL := Lib.hid (HLO.out (xa : Int) wr w.heap.size HBW2.out.size ((HP.out.below (HBW2.out.mono HBW.out)).more HBW.out))
      go_wp2_with fail
      refine HCALL.out.mono ?_
      rintro e4 w4 ⟨⟨r, hr, rfl⟩, hb4⟩
      have hrj : r = L j := hr.1 j (by rw [HM.out]; omega) (by rw [HXA.out])
      have HRJ := Lib.hid hrj
      have HBR4 := Lib.hid (below_trans HBR.out hb4)
      clear hr hrj hb4 HCALL y1 htl c0 hq3
      cases r with
      | none =>
        rw [show longV s none = .tuple #[.int .i64 0, .bool false] from rfl]
        have HNE2 : Hid (∀ k, k < j + 1 → (AtF (decT s) k : Int) < z ∨ L k = none) := fun k h => by
          rcases Nat.lt_or_ge k j with h' | h'
          · exact HNE.out k h'
          · obtain rfl : k = j := by omega
            exact .inr HRJ.out.symm
        go_wp2_with fail
        go_roundw
        case rel => exact ⟨j + 1, by go_num, by omega, HBR4.out, HNE2.out⟩
        case measure => simp [intOf] <;> omega
      | some e =>
        rw [show longV s (some e) = .tuple #[.int .i64 (AtF (decT s) e : Int), .bool true] from rfl]
        have hje := HLE.out j e (by omega) HRJ.out.symm
        have HF : Hid (FirstIs s L z (some (j, e))) := fun g hg => by
          have hmono : ∀ k, g ≤ k → k < j → L k = none := fun k h1 h2 => by
            rcases HNE.out k h2 with h3 | h3
            · exfalso
              have h4 := hg.2.2.2 (by rw [HM.out]; omega)
              have h5 := AtF_le s g k h1
              omega
            · exact h3
          have hgj : g ≤ j := by
            rcases Nat.lt_or_ge j g with h1 | h1
            · have := hg.2.2.1 j (Nat.zero_le _) h1
              rw [HXA.out] at this
              omega
            · exact h1
          exact (firstL_hit HRJ.out.symm _ g hmono hgj (by have := hg.2.1; rw [HM.out] at this ⊢; omega)).symm
        have HJE := Lib.hid hje
        have hrbw : Blk w4 w.heap.size 33 #[.int .i64 0, .int .i64 0] := HRB2.out.below HBR4.out HRB2.out.lt
        have HRB4 := Lib.hid hrbw
        have htb4 := HTB.out.below HBR4.out HTB.out.lt
        have v1 := htb4.cell 1
        have htl4 := htb4.lt
        obtain ⟨off2, hoff2, hq4, hcell4⟩ := (HPV2.out.under HBR4.out).at_ (by omega)
        simp only [Option.some.injEq, Addr.mk.injEq, true_and, and_true] at hoff2
        subst hoff2
        have c1 := hcell4 j hj
        rw [Nat.zero_add, HXA.out] at c1
        have y0 := hrbw.cell 0
        have y1' := hrbw.cell 1
        have z0 := hrbw.frozen 0
        have z1 := hrbw.frozen 1
        have hrl := hrbw.lt
        simp only [List.getElem?_toArray, List.getElem?_cons_succ, List.getElem?_cons_zero] at y0 y1' v1
        have HBF := Lib.hid (below_trans HB2.out HBR4.out)
        have hfin : Hid (hitV s (some (j, e)) = .agg #[.int .i64 (xa : Int), .int .i64 (AtF (decT s) e : Int)]) := by show _ = _; rw [hitV, HXA.out]
        clear hrbw htb4 hcell4 hje
        go_wp2_with fail
        have hb2 := (HRB4.out.set_ 0 (.int .i64 (xa : Int))).set_ 1 (.int .i64 (AtF (decT s) e : Int))
        have ho2 := (HBF.out.setCell (p := ⟨w.heap.size, 0, none⟩) (Nat.le_refl _) (.int .i64 (xa : Int))).setCell (p := ⟨w.heap.size, 1, none⟩) (Nat.le_refl _) (.int .i64 (AtF (decT s) e : Int))
        generalize (w4.setCell ⟨w.heap.size, 0, none⟩ (.int .i64 (xa : Int))).setCell ⟨w.heap.size, 1, none⟩ (.int .i64 (AtF (decT s) e : Int)) = w9 at hb2 ho2 ⊢
        have x0 := hb2.cell 0
        have x1 := hb2.cell 1
        simp at x0 x1
        have HO9 := Lib.hid ho2
        clear hb2 ho2 y0 y1' z0 z1
        try simp only [Exit.inBlock, Exit.then]
        refine bodyPost_ret (by simp [results, Try.results21, go_sem, x0, x1]; try rfl) rfl ?_
        refine ⟨⟨some (j, e), HF.out, fun a e' h => ?_, by rw [hfin.out]; rfl⟩, HO9.out⟩
        simp only [Option.some.injEq, Prod.mk.injEq] at h
        obtain ⟨rfl, rfl⟩ := h
        have := HJE.out
        rw [HM.out]
        exact this
  · obtain rfl : j = m + 1 := by omega
    have HF : Hid (FirstIs s L z none) := fun g hg => by
      refine (firstL_none _ g fun k h1 h2 => ?_).symm
      rcases HNE.out k (by rw [HM.out] at h2; have := hg.2.1; rw [HM.out] at this; omega) with h3 | h3
      · exfalso
        have hgm : g ≤ (decT s).length := by have := hg.2.1; omega
        have h4 := hg.2.2.2 hgm
        have h5 := AtF_le s g k h1
        omega
      · exact h3
    have hrbw : Blk wr w.heap.size 33 #[.int .i64 0, .int .i64 0] := HRB2.out.below HBR.out HRB2.out.lt
    have HRB4 := Lib.hid hrbw
    have y0 := hrbw.cell 0
    have y1' := hrbw.cell 1
    have z0 := hrbw.frozen 0
    have z1 := hrbw.frozen 1
    have hrl := hrbw.lt
    simp only [List.getElem?_toArray, List.getElem?_cons_succ, List.getElem?_cons_zero] at y0 y1'
    clear hrbw
    go_wp2_with fail
    have hb2 := (HRB4.out.set_ 0 (.int .i64 0)).set_ 1 (.int .i64 0)
    have ho2 := (HBW2.out.setCell (p := ⟨w.heap.size, 0, none⟩) (Nat.le_refl _) (.int .i64 0)).setCell (p := ⟨w.heap.size, 1, none⟩) (Nat.le_refl _) (.int .i64 0)
    generalize (wr.setCell ⟨w.heap.size, 0, none⟩ (.int .i64 0)).setCell ⟨w.heap.size, 1, none⟩ (.int .i64 0) = w9 at hb2 ho2 ⊢
    have x0 := hb2.cell 0
    have x1 := hb2.cell 1
    simp at x0 x1
    have HO9 := Lib.hid ho2
    clear hb2 ho2 y0 y1' z0 z1
    try simp only [Exit.inBlock, Exit.then]
    refine bodyPost_ret (by simp [results, Try.results21, go_sem, x0, x1]; try rfl) rfl ?_
    exact ⟨⟨none, HF.out, fun a e' h => by simp at h, rfl⟩, HO9.out⟩
end Go.Proofs.Ytjfkppbfckgckaa
namespace Go.Proofs.Ytjfkppbfckgckaa
open Go.RowKit Go.Rb
attribute [local irreducible] Go.wpQuiet
set_option maxRecDepth 20000

theorem isFrom_self (s : ByteArray) {g : Nat} (hg : g ≤ (decT s).length) : IsFrom s 0 (AtF (decT s) g : Int) g :=
  ⟨Nat.zero_le _, by omega, fun j _ hj => by have := AtF_lt s j g hj hg; omega, fun _ => Int.le_refl _⟩
/-- How many hits there may be. -/
def fewH (g : Nat) (out : List (Nat × Nat)) : Prop := out.length ≤ g ∨ (out.length ≤ g + 1 ∧ out.getLast?.map (·.2) = some g)
theorem fewH_skip {g e : Nat} {out : List (Nat × Nat)} (h : fewH g out) (hg : g ≤ e) : fewH (e + 1) out := by
  rcases h with h | h
  · exact .inl (by omega)
  · exact .inl (by omega)
theorem fewH_app {g a e : Nat} {out : List (Nat × Nat)} (h : fewH g out) (hg : g ≤ a) (ha : a ≤ e) (hn : ¬ (a = e ∧ out.getLast?.map (·.2) = some e)) : fewH e (out ++ [(a, e)]) := by
  refine .inr ⟨?_, by simp⟩
  rw [List.length_append]
  simp only [List.length_cons, List.length_nil]
  rcases h with h | ⟨h1, h2⟩
  · omega
  · by_cases he : g < e
    · omega
    · exfalso
      obtain rfl : g = e := by omega
      obtain rfl : a = g := by omega
      exact hn ⟨rfl, h2⟩
theorem hitsC_len (s : ByteArray) (l : List (Nat × Nat)) : (hitsC s l).length = l.length * 2 := by
  induction l with
  | nil => rfl
  | cons x l ih => rw [hitsC, List.flatMap_cons, List.length_append, ← hitsC, ih]; simp; omega
theorem hits_last {s : ByteArray} {w : World} {v : Value} {l : List (Nat × Nat)} {a e : Nat} (h : HsO s w v (l ++ [(a, e)])) : ∃ g off c, v = .slice (some ⟨g, off, none⟩) (l.length + 1) c ∧ l.length + 1 ≤ c ∧ g < w.heap.size ∧ w.cell? ⟨g, off + l.length * 2 + 1, none⟩ = some (.int .i64 (AtF (decT s) e : Int)) := by
  unfold HsO at h
  rw [List.length_append] at h
  obtain ⟨g, off, c, rfl, hc, -, hg, hcell, -⟩ := h.form (by simp)
  refine ⟨g, off, c, rfl, hc, hg, ?_⟩
  have hl := hitsC_len s l
  have := hcell (l.length * 2 + 1) (by simp only [List.length_cons, List.length_nil]; omega)
  rw [← Nat.add_assoc] at this
  rw [this]
  have e2 : hitsC s (l ++ [(a, e)]) = hitsC s l ++ [.int .i64 (AtF (decT s) a : Int), .int .i64 (AtF (decT s) e : Int)] := by simp [hitsC]
  rw [e2, List.getElem?_append_right (by omega), hl, Nat.add_sub_cancel_left]
  rfl
theorem hsO_ln {s : ByteArray} {w : World} {v : Value} {l : List (Nat × Nat)} {n : Nat} (hn : l.length = n) (h : HsO s w v l) : Own w 33 2 v n (hitsC s l) := by
  rw [← hn]; exact h
theorem pv_cell {s : ByteArray} {w : World} {q off len j : Nat} (h : PV s w q (some ⟨q, off, none⟩) 0 len) (hj : j < len) : q < w.heap.size ∧ w.cell? ⟨q, off + j, none⟩ = some (.int .i64 (AtF (decT s) j : Int)) := by
  obtain ⟨off', hoff, hq3, hcell⟩ := h.at_ (by omega)
  simp only [Option.some.injEq, Addr.mk.injEq, true_and, and_true] at hoff
  subst hoff
  have := hcell j hj
  rw [Nat.zero_add] at this
  exact ⟨hq3, this⟩
set_option maxHeartbeats 8000000 in
theorem refAll_any {p : List Ins} {n : Nat} (hn : p.length = n) (hn0 : 0 < n) (hn2 : n ≤ 200) (hok : RightI p) (hset : ∀ (i : Nat) (t : Ins), p[i]? = some t → t.set.length ≤ 1000) {s : ByteArray} (hs8 : s.size ≤ 60) {A : Option Addr} {cp : Nat} (hcp : n ≤ cp) {L : Nat → Option Nat} (hL : ∀ k, k ≤ (decT s).length → IsLast p (rsL s) k (L k)) (w : World) {B : Nat} (hB : B ≤ w.heap.size) (hP : PRd w B A p) :
    Calls Try.prog 13 #[.slice A n cp, .string s] w fun e w' => ∃ v, e = .returned v ∧ HsO s w' v (allR L (decT s).length 20000 0 []) ∧ (∀ k, v.ownBlock = some k → w.heap.size ≤ k) ∧ Below w.heap.size w w' := by
  obtain ⟨i0, hi0, hz0, hz1, hz2⟩ := info_parts infoHit
  have hml := decT_len s
  have HFI := Lib.hid (fun (z : Int) (W : World) (B' : Nat) (hB' : B' ≤ W.heap.size) (hP' : PRd W B' A p) => refFirst_any hn hn0 hn2 hok hset hs8 hcp hL z W hB' hP')
  obtain ⟨m, hm⟩ : ∃ m, (decT s).length = m := ⟨_, rfl⟩
  have HM := Lib.hid hm
  have HP := Lib.hid hP
  have HBW := Lib.hid hB
  rw [hm] at hml
  obtain ⟨R, hR⟩ : ∃ R, allR L m 20000 0 [] = R := ⟨_, rfl⟩
  rw [hm, hR]
  have HR := Lib.hid hR
  have HOF := Lib.hid (of_any s w (by omega))
  have hA0 : AtF (decT s) 0 = 0 := rfl
  clear hn hok hset hL hP hB hm hR
  go_enter Try.func13, Try.ntmps13
  go_wp2_with fail
  refine HOF.out.mono ?_
  rintro e1 w1 ⟨vr, va, rfl, hzr, hza, -, -, hb1⟩
  obtain ⟨q, off, ca, rfl, hca, -, hpv⟩ := pv_new hza
  obtain ⟨Ar, cr, rfl, -, -⟩ := Own.len_ hzr
  rw [HM.out] at hca hpv ⊢
  have HB1 := Lib.hid hb1
  have HPV := Lib.hid hpv
  have hs1 := HB1.out.size
  clear hzr hza hb1 hpv HOF
  go_upto_region 2 with fail
  have hbl : Below w1.heap.size w1 (w1.alloc (.cells #[.slice Ar (rsL s).length cr, .slice (some ⟨q, off, none⟩) (m + 1) ca] 41)) := below_al (Below.refl _ _) _
  have htb := Blk.new w1 41 #[.slice Ar (rsL s).length cr, .slice (some ⟨q, off, none⟩) (m + 1) ca]
  generalize w1.alloc (.cells #[.slice Ar (rsL s).length cr, .slice (some ⟨q, off, none⟩) (m + 1) ca] 41) = w2 at hbl htb ⊢
  obtain ⟨tt, htt⟩ : ∃ tt, w1.heap.size = tt := ⟨_, rfl⟩
  rw [htt] at htb ⊢
  have HB2 := Lib.hid (below_trans HB1.out hbl)
  have HPV2 := Lib.hid (HPV.out.under hbl)
  have HTB := Lib.hid htb
  clear hbl htb htt
  go_wp2_with fail
  go_loopw [6, 7] (fun v6 v7 wr => ∃ (g fu : Nat) (out : List (Nat × Nat)) (ln : Nat), v7 = .int .i64 (AtF (decT s) g : Int) ∧ g ≤ m ∧ Hid (out.length = ln) ∧ Hid (fewH g out) ∧ Hid (∀ z, out.getLast? = some z → z.2 ≤ g) ∧ Hid (HsO s wr v6 out) ∧ Hid (∀ k, v6.ownBlock = some k → w2.heap.size ≤ k) ∧ Hid (Below w2.heap.size w2 wr) ∧ Hid (allR L m fu g out = R) ∧ Hid ((70 - ln) * 100 + (70 - AtF (decT s) g) + 1 ≤ fu)) (fun v6 v7 _ => (70 - (match v6 with | .slice _ l _ => l | _ => 0)) * 100 + (70 - (intOf v7).toNat))
  case atStart => exact ⟨0, 20000, [], 0, rfl, by omega, rfl, .inl (Nat.le_refl _), (fun z hz => by simp at hz), Own.nil_ _ _ _, by simp [Hid, Value.ownBlock], Below.refl _ _, HR.out, by simp [Hid, hA0]⟩
  case round =>
  obtain ⟨g, fu, out, ln, rfl, hgm, HLN, HFW, HLE, HO, HK, HB, HRG, HFU⟩ := hrel
  obtain ⟨Ao, co, rfl, -, -⟩ := HO.out.len_
  rw [HLN.out] at HO HK ⊢
  have hol : ln ≤ 62 := by rw [← HLN.out]; rcases HFW.out with h | ⟨h, -⟩ <;> omega
  obtain ⟨xg, hxg⟩ : ∃ xg, AtF (decT s) g = xg := ⟨_, rfl⟩
  have HXGE := Lib.hid hxg
  have hxg60 : xg ≤ 60 := by have := AtF_size s g (by rw [HM.out]; exact hgm); omega
  rw [hxg] at HFU ⊢
  obtain ⟨fu, rfl⟩ : ∃ x, fu = x + 1 := ⟨fu - 1, by have := HFU.out; omega⟩
  have HBW2 := Lib.hid (below_trans HB2.out HB.out)
  have hcall := HFI.out (xg : Int) wr w.heap.size HBW2.out.size ((HP.out.below (HBW2.out.mono HBW.out)).more HBW.out)
  have HCALL := Lib.hid hcall
  clear hxg hcall
  go_wp2_with fail
  refine HCALL.out.mono ?_
  rintro e4 w4 ⟨⟨Rf, hf, hle, rfl⟩, hb4⟩
  have hRf : Rf = firstL L (m + 1 - g) g := by
    have := hf g (by rw [← HXGE.out]; exact isFrom_self s (by rw [HM.out]; exact hgm))
    rwa [HM.out] at this
  have hrg := HRG.out
  rw [allR, ← hRf] at hrg
  have hs4 := hb4.size
  have HB4 := Lib.hid (below_trans HB.out hb4)
  have HO4 : Hid (HsO s w4 (.slice Ao ln co) out) := Own.below HO.out hb4 (fun k hk => Own.lt HO.out hk)
  have hpv4 := HPV2.out.under HB4.out
  cases Rf with
  | none =>
    have HFR : Hid (out = R) := hrg
    rw [show hitV s none = .agg #[.int .i64 0, .int .i64 0] from rfl, show (none : Option (Nat × Nat)).isSome = false from rfl]
    have HB9 : Hid (Below w.heap.size w (w4.alloc (.cells #[.int .i64 0, .int .i64 0] 33))) := below_trans HB2.out (below_trans HB4.out (below_al (Below.refl _ _) _))
    have HO9 : Hid (HsO s (w4.alloc (.cells #[.int .i64 0, .int .i64 0] 33)) (.slice Ao ln co) out) := HO4.out.alloc _
    have HK9 : Hid (∀ k, (Value.slice Ao ln co).ownBlock = some k → w.heap.size ≤ k) := fun k hk => Nat.le_trans HB2.out.size (HK.out k hk)
    clear hf hle hb4 hRf hrg HCALL hpv4
    go_wp2_with fail
    go_returns
    exact ⟨_, rfl, by rw [← HFR.out]; exact HO9.out, HK9.out, HB9.out⟩
  | some ae =>
    obtain ⟨a, e⟩ := ae
    have hae := hle a e rfl
    rw [HM.out] at hae
    have hga : g ≤ a := (firstL_some _ _ _ _ hRf.symm).1
    simp only at hrg
    rw [show hitV s (some (a, e)) = .agg #[.int .i64 (AtF (decT s) a : Int), .int .i64 (AtF (decT s) e : Int)] from rfl, show (some (a, e) : Option (Nat × Nat)).isSome = true from rfl]
    obtain ⟨xa, hxa⟩ : ∃ xa, AtF (decT s) a = xa := ⟨_, rfl⟩
    obtain ⟨xe, hxe⟩ : ∃ xe, AtF (decT s) e = xe := ⟨_, rfl⟩
    have HXA := Lib.hid hxa
    have HXE := Lib.hid hxe
    have hxe60 : xe ≤ 60 := by have := AtF_size s e (by rw [HM.out]; exact hae.2); omega
    have hxae : xa ≤ xe := by rw [← hxa, ← hxe]; exact AtF_le s a e hae.1
    have HXG : Hid (xg ≤ xe) := by show _ ≤ _; rw [← HXGE.out, ← hxe]; exact AtF_le s g e (by omega)
    have HXL : Hid (a < e → xa < xe) := fun h => by rw [← hxa, ← hxe]; exact AtF_lt s a e h (by rw [HM.out]; exact hae.2)
    have HAE := Lib.hid hae
    have HGA := Lib.hid hga
    have HR1 := Lib.hid hrg
    rw [hxa, hxe]
    clear hf hle hb4 hRf hrg HCALL hae hga hxa hxe
    go_upto_region 5 with fail
    have hbal := below_al (Below.refl w4.heap.size w4) (.cells #[.int .i64 (xa : Int), .int .i64 (xe : Int)] 33)
    have hxb := Blk.new w4 33 #[.int .i64 (xa : Int), .int .i64 (xe : Int)]
    have ho5 : HsO s (w4.alloc (.cells #[.int .i64 (xa : Int), .int .i64 (xe : Int)] 33)) (.slice Ao ln co) out := HO4.out.alloc _
    generalize w4.alloc (.cells #[.int .i64 (xa : Int), .int .i64 (xe : Int)] 33) = w5 at hbal hxb ho5 ⊢
    obtain ⟨xb, hxbe⟩ : ∃ xb, w4.heap.size = xb := ⟨_, rfl⟩
    rw [hxbe] at hxb ⊢
    have HO5 := Lib.hid ho5
    have HX5 := Lib.hid hxb
    have HXN : Hid (∀ k, (Value.slice Ao ln co).ownBlock = some k → k ≠ xb) := fun k hk h => by have := Own.lt HO4.out hk; omega
    have HB5 := Lib.hid (below_trans HB4.out hbal)
    have HT5 := Lib.hid (HTB.out.below HB5.out HTB.out.lt)
    have HPV5 := Lib.hid (hpv4.under hbal)
    have u0 := hxb.cell 0
    have u1 := hxb.cell 1
    have hxl5 := hxb.lt
    simp only [List.getElem?_toArray, List.getElem?_cons_succ, List.getElem?_cons_zero] at u0 u1
    clear hbal hxb ho5 hxbe hpv4
    go_upto_region 8 with fail
    by_cases hne : a = e
    · obtain rfl : xa = xe := by rw [← HXA.out, ← HXE.out, hne]
      rcases List.eq_nil_or_concat out with hnil | ⟨o1, z, hcc⟩
      · have hl0 : ln = 0 := by rw [← HLN.out, hnil]; rfl
        have hskip : ¬ (a = e ∧ out.getLast?.map (·.2) = some e) := by rw [hnil]; simp
        have HNS := Lib.hid hskip
        have HR2 : Hid (allR L m fu e (out ++ [(a, e)]) = R) := by have := HR1.out; rw [if_neg hskip] at this; exact this
        clear hskip hne hnil
        go_quiet (fail)
        have ho6 : HsO s (w5.drewN nq) (.slice Ao ln co) out := Own.drewN HO5.out nq
        have hb6 := below_drewN HB5.out nq
        have ht6 := HT5.out.drewN nq
        have hx6 := HX5.out.drewN nq
        have hpv6 : PV s (w5.drewN nq) q (some ⟨q, off, none⟩) 0 (m + 1) := HPV5.out.under (below_drewN (Below.refl _ _) nq)
        generalize w5.drewN nq = w6 at ho6 hb6 ht6 hx6 hpv6 ⊢
        have HO6 := Lib.hid ho6
        have HB6 := Lib.hid hb6
        have HT6 := Lib.hid ht6
        have HX6 := Lib.hid hx6
        have HPV6 := Lib.hid hpv6
        clear hl0
        have r1 := hx6.cell 1
        have r0 := hx6.cell 0
        have hxl6 := hx6.lt
        simp only [List.getElem?_toArray, List.getElem?_cons_succ, List.getElem?_cons_zero] at r0 r1
        clear ho6 hb6 ht6 hx6 hpv6 u0 u1 hxl5
        go_wp2_with (at_builtin; go_loud (refine wpList_append_mine _ rfl (.tmp 73) (.tmp 75) _ rfl 33 i0 _ 2 16 Try.underlying27 hi0 hz0 hz1 hz2 rfl (by omega) (.slice Ao ln co) ln (hitsC s out) rfl (by exact (hsO_ln HLN.out (HO6.out.alloc _))) _ 1 1 [.int .i64 (xa : Int), .int .i64 (xa : Int)] rfl rfl (by exact news_pushs rfl rfl) (by simp [Value.oneCell']) (by omega) (by simp only [maxLen]; omega) (by omega) _ rfl ?_); intro g7 o7 c7 w7 hown7 hgrow7 hat7; have ho7 : Only (fun k => (Value.slice Ao ln co).ownBlock = some k) w6 w7 := ((Only.refl _ w6).alloc _).grown hgrow7 (fun k hk _ => hk); have hx7 := HX6.out.only ho7 (fun h => absurd (HXN.out _ h) (by simp)); have HO7 := Lib.hid (hits_snoc (s := s) (w := w7) (v := .slice (some ⟨g7, o7, none⟩) (ln + 1) c7) (l := out) (a := a) (e := e) (by rw [HXA.out, HXE.out, HLN.out]; exact hown7)); have HB7 := Lib.hid (HB6.out.trans (ho7.below HB6.out.size HK.out)); have HK7 := Lib.hid (zs_far (o := o7) (n := ln + 1) (c := c7) (B := w2.heap.size) HK.out hat7 (by have := HB6.out.size; simp; omega)); have t1 := hx7.cell 1; have hxl7 := hx7.lt; simp only [List.getElem?_toArray, List.getElem?_cons_succ, List.getElem?_cons_zero] at t1; clear hown7 hgrow7 hat7 ho7 hx7)
        go_roundw
        case rel => exact ⟨e, fu, out ++ [(a, e)], ln + 1, by rw [HXE.out], by have := HAE.out; omega, by show (out ++ [(a, e)]).length = _; rw [List.length_append, HLN.out]; rfl, fewH_app HFW.out HGA.out HAE.out.1 HNS.out, (fun z hz => by rw [List.getLast?_append] at hz; simp at hz; subst hz; exact Nat.le_refl _), HO7.out, HK7.out, HB7.out, HR2.out, by show _ ≤ _; have := HFU.out; rw [HXE.out]; omega⟩
        case measure => have hge := HXG.out; show (70 - (ln + 1)) * 100 + (70 - ((xa : Int)).toNat) < (70 - ln) * 100 + (70 - ((xg : Int)).toNat); omega
      · rw [List.concat_eq_append] at hcc
        obtain ⟨z1, z2⟩ := z
        have ho5 := HO5.out
        rw [hcc] at ho5
        obtain ⟨gg, oo, cc, hsl, -, hgg, hzc⟩ := hits_last ho5
        simp only [Value.slice.injEq] at hsl
        obtain ⟨rfl, -, -⟩ := hsl
        have hl1 : ln = o1.length + 1 := by rw [← HLN.out, hcc, List.length_append]; rfl
        have hz2e : z2 ≤ e := by have h1 : z2 ≤ g := HLE.out (z1, z2) (by rw [hcc]; simp); have := HGA.out; have := HAE.out; omega
        clear ho5
        by_cases hz : z2 = e
        · have HSK : Hid (a = e ∧ out.getLast?.map (·.2) = some e) := ⟨hne, by rw [hcc]; simp [hz]⟩
          rw [hz, HXE.out] at hzc
          generalize o1.length = k1 at hzc hl1
          clear hne hcc hz hz2e
          go_quiet (fail)
          have ho6 : HsO s (w5.drewN nq) (.slice (some ⟨gg, oo, none⟩) ln co) out := Own.drewN HO5.out nq
          have hb6 := below_drewN HB5.out nq
          have ht6 := HT5.out.drewN nq
          have hx6 := HX5.out.drewN nq
          have hpv6 : PV s (w5.drewN nq) q (some ⟨q, off, none⟩) 0 (m + 1) := HPV5.out.under (below_drewN (Below.refl _ _) nq)
          generalize w5.drewN nq = w6 at ho6 hb6 ht6 hx6 hpv6 ⊢
          have HO6 := Lib.hid ho6
          have HB6 := Lib.hid hb6
          have HT6 := Lib.hid ht6
          have HX6 := Lib.hid hx6
          have HPV6 := Lib.hid hpv6
          clear hl1 hzc hgg
          clear ho6 hb6 ht6 hx6 hpv6 u0 u1 hxl5
          go_wp2_with fail
          go_loopw [7, 11] (fun v7 v11 wr => ∃ i : Nat, i ≤ m + 1 ∧ v11 = .int .i64 (i : Int) ∧ v7 = .int .i64 (if e + 1 < i then (AtF (decT s) (e + 1) : Int) else -1) ∧ Hid (HsO s wr (.slice (some ⟨gg, oo, none⟩) ln co) out) ∧ Hid (Below w2.heap.size w2 wr) ∧ Hid (Blk wr tt 41 #[.slice Ar (rsL s).length cr, .slice (some ⟨q, off, none⟩) (m + 1) ca]) ∧ Hid (Blk wr xb 33 #[.int .i64 (xa : Int), .int .i64 (xa : Int)]) ∧ Hid (PV s wr q (some ⟨q, off, none⟩) 0 (m + 1))) (fun _ v11 _ => m + 1 - (intOf v11).toNat)
          case atStart => exact ⟨0, by omega, rfl, rfl, HO6.out, HB6.out, HT6.out, HX6.out, HPV6.out⟩
          case round =>
          clear HO6 HB6 HT6 HX6 HPV6
          obtain ⟨i, him, rfl, rfl, HOI, HBI, HTI, HXI, HPI⟩ := hrel
          have y1 := HTI.out.cell 1
          have hyl := HTI.out.lt
          have x1 := HXI.out.cell 1
          have hxl := HXI.out.lt
          simp only [List.getElem?_toArray, List.getElem?_cons_succ, List.getElem?_cons_zero] at y1 x1
          by_cases hi : i < m + 1
          · have hcell := (pv_cell HPI.out hi)
            obtain ⟨hql, hcell⟩ := hcell
            obtain ⟨xi, hxi⟩ : ∃ xi, AtF (decT s) i = xi := ⟨_, rfl⟩
            have HXII := Lib.hid hxi
            rw [hxi] at hcell
            by_cases hie : i ≤ e
            · have hle : xi ≤ xa := by rw [← hxi, ← HXE.out]; exact AtF_le s i e hie
              have hd1 : decide ((xa : Int) < (xi : Int)) = false := by simp; omega
              have hd2 : ¬ xa < xi := by omega
              rw [if_neg (by omega)]
              clear hxi
              go_upto_region 13 with fail
              go_quiet (fail)
              have ho6 : HsO s (wr.drewN nq) (.slice (some ⟨gg, oo, none⟩) ln co) out := Own.drewN HOI.out nq
              have hb6 := below_drewN HBI.out nq
              have ht6 := HTI.out.drewN nq
              have hx6 := HXI.out.drewN nq
              have hpv6 : PV s (wr.drewN nq) q (some ⟨q, off, none⟩) 0 (m + 1) := HPI.out.under (below_drewN (Below.refl _ _) nq)
              generalize wr.drewN nq = w6 at ho6 hb6 ht6 hx6 hpv6 ⊢
              have HO6 := Lib.hid ho6
              have HB6 := Lib.hid hb6
              have HT6 := Lib.hid ht6
              have HX6 := Lib.hid hx6
              have HPV6 := Lib.hid hpv6
              have q1 := ht6.cell 1
              have q2 := ht6.lt
              clear ho6 hb6 ht6 hx6 hpv6 y1 hyl x1 hxl hcell hql hd1 hd2
              go_wp2_with fail
              go_roundw
              case rel => exact ⟨i + 1, by omega, by go_num, by rw [if_neg (by omega)], HO6.out, HB6.out, HT6.out, HX6.out, HPV6.out⟩
              case measure => simp [intOf]; omega
            · have hlt : xa < xi := by rw [← hxi, ← HXE.out]; exact AtF_lt s e i (by omega) (by rw [HM.out]; omega)
              have hd1 : decide ((xa : Int) < (xi : Int)) = true := by simp; omega
              by_cases hie1 : i = e + 1
              · have HI1 := Lib.hid hie1
                rw [if_neg (by omega)]
                clear hxi hie1
                go_upto_region 13 with fail
                go_quiet (fail)
                have ho6 : HsO s (wr.drewN nq) (.slice (some ⟨gg, oo, none⟩) ln co) out := Own.drewN HOI.out nq
                have hb6 := below_drewN HBI.out nq
                have ht6 := HTI.out.drewN nq
                have hx6 := HXI.out.drewN nq
                have hpv6 : PV s (wr.drewN nq) q (some ⟨q, off, none⟩) 0 (m + 1) := HPI.out.under (below_drewN (Below.refl _ _) nq)
                generalize wr.drewN nq = w6 at ho6 hb6 ht6 hx6 hpv6 ⊢
                have HO6 := Lib.hid ho6
                have HB6 := Lib.hid hb6
                have HT6 := Lib.hid ht6
                have HX6 := Lib.hid hx6
                have HPV6 := Lib.hid hpv6
                have q1 := ht6.cell 1
                have q2 := ht6.lt
                have q3 := (pv_cell hpv6 hi)
                obtain ⟨q4, q3⟩ := q3
                rw [HXII.out] at q3
                simp only [List.getElem?_toArray, List.getElem?_cons_succ, List.getElem?_cons_zero] at q1
                clear ho6 hb6 ht6 hx6 hpv6 y1 hyl x1 hxl hcell hql hd1 hlt
                go_wp2_with fail
                go_roundw
                case rel => exact ⟨i + 1, by omega, by go_num, by rw [if_pos (by have := HI1.out; omega), ← HI1.out, HXII.out], HO6.out, HB6.out, HT6.out, HX6.out, HPV6.out⟩
                case measure => simp [intOf]; omega
              · rw [if_pos (by omega)]
                obtain ⟨xn, hxn⟩ : ∃ xn, AtF (decT s) (e + 1) = xn := ⟨_, rfl⟩
                have HXN1 := Lib.hid hxn
                rw [hxn]
                have hd3 : decide ((xn : Int) < 0) = false := by simp
                clear hxi hxn
                go_upto_region 13 with fail
                go_quiet (fail)
                have ho6 : HsO s (wr.drewN nq) (.slice (some ⟨gg, oo, none⟩) ln co) out := Own.drewN HOI.out nq
                have hb6 := below_drewN HBI.out nq
                have ht6 := HTI.out.drewN nq
                have hx6 := HXI.out.drewN nq
                have hpv6 : PV s (wr.drewN nq) q (some ⟨q, off, none⟩) 0 (m + 1) := HPI.out.under (below_drewN (Below.refl _ _) nq)
                generalize wr.drewN nq = w6 at ho6 hb6 ht6 hx6 hpv6 ⊢
                have HO6 := Lib.hid ho6
                have HB6 := Lib.hid hb6
                have HT6 := Lib.hid ht6
                have HX6 := Lib.hid hx6
                have HPV6 := Lib.hid hpv6
                clear ho6 hb6 ht6 hx6 hpv6 y1 hyl x1 hxl hcell hql hd1 hlt hd3
                go_wp2_with fail
                go_roundw
                case rel => exact ⟨i + 1, by omega, by go_num, by rw [if_pos (by omega)], HO6.out, HB6.out, HT6.out, HX6.out, HPV6.out⟩
                case measure => simp [intOf]; omega
          · obtain rfl : i = m + 1 := by omega
            by_cases hem : e + 1 ≤ m
            · rw [if_pos (by omega)]
              obtain ⟨xn, hxn⟩ : ∃ xn, AtF (decT s) (e + 1) = xn := ⟨_, rfl⟩
              have HXN1 := Lib.hid hxn
              have hxn60 : xn ≤ 60 := by have := AtF_size s (e + 1) (by rw [HM.out]; exact hem); omega
              have HXGN : Hid (xa < xn) := by show _ < _; rw [← hxn, ← HXE.out]; exact AtF_lt s e (e + 1) (by omega) (by rw [HM.out]; exact hem)
              rw [hxn]
              have hd3 : decide ((xn : Int) < 0) = false := by simp
              have HR2 : Hid (allR L m fu (e + 1) out = R) := by have := HR1.out; rw [if_pos HSK.out, if_pos hem] at this; exact this
              clear hxn x1 hxl
              go_wp2_with fail
              go_roundw
              case rel => exact ⟨e + 1, fu, out, ln, by rw [HXN1.out], hem, HLN.out, fewH_skip HFW.out (by have := HAE.out; have := HGA.out; omega), (fun z hz => by have := HLE.out z hz; have := HAE.out; have := HGA.out; omega), HOI.out, HK.out, HBI.out, HR2.out, by show _ ≤ _; have := HFU.out; have := HXGN.out; have := HXG.out; rw [HXN1.out]; omega⟩
              case measure => have hge := HXG.out; have := HXGN.out; show (70 - ln) * 100 + (70 - ((xn : Int)).toNat) < (70 - ln) * 100 + (70 - ((xg : Int)).toNat); omega
            · rw [if_neg (by omega)]
              have HFR : Hid (out = R) := by have := HR1.out; rw [if_pos HSK.out, if_neg hem] at this; exact this
              have HB9 : Hid (Below w.heap.size w wr) := below_trans HB2.out HBI.out
              have HK9 : Hid (∀ k, (Value.slice (some ⟨gg, oo, none⟩) ln co).ownBlock = some k → w.heap.size ≤ k) := fun k hk => Nat.le_trans HB2.out.size (HK.out k hk)
              clear x1 hxl
              go_wp2_with fail
              go_returns
              exact ⟨_, rfl, by rw [← HFR.out]; exact HOI.out, HK9.out, HB9.out⟩
        · have hskip : ¬ (a = e ∧ out.getLast?.map (·.2) = some e) := fun h => hz (by have := h.2; rw [hcc] at this; simpa using this)
          have HNS := Lib.hid hskip
          have HR2 : Hid (allR L m fu e (out ++ [(a, e)]) = R) := by have := HR1.out; rw [if_neg hskip] at this; exact this
          obtain ⟨xz, hxz⟩ : ∃ xz, AtF (decT s) z2 = xz := ⟨_, rfl⟩
          have hzlt : xz < xa := by rw [← hxz, ← HXE.out]; exact AtF_lt s z2 e (by omega) (by rw [HM.out]; exact HAE.out.2)
          have hzd : ((xz : Int) == (xa : Int)) = false := by simp; omega
          have hzd2 : ¬ xz = xa := by omega
          rw [hxz] at hzc
          generalize o1.length = k1 at hzc hl1
          clear hskip hne hcc hz hz2e hxz
          go_quiet (fail)
          have ho6 : HsO s (w5.drewN nq) (.slice (some ⟨gg, oo, none⟩) ln co) out := Own.drewN HO5.out nq
          have hb6 := below_drewN HB5.out nq
          have ht6 := HT5.out.drewN nq
          have hx6 := HX5.out.drewN nq
          have hpv6 : PV s (w5.drewN nq) q (some ⟨q, off, none⟩) 0 (m + 1) := HPV5.out.under (below_drewN (Below.refl _ _) nq)
          generalize w5.drewN nq = w6 at ho6 hb6 ht6 hx6 hpv6 ⊢
          have HO6 := Lib.hid ho6
          have HB6 := Lib.hid hb6
          have HT6 := Lib.hid ht6
          have HX6 := Lib.hid hx6
          have HPV6 := Lib.hid hpv6
          clear hl1 hzc hgg hzlt hzd hzd2
          have r1 := hx6.cell 1
          have r0 := hx6.cell 0
          have hxl6 := hx6.lt
          simp only [List.getElem?_toArray, List.getElem?_cons_succ, List.getElem?_cons_zero] at r0 r1
          clear ho6 hb6 ht6 hx6 hpv6 u0 u1 hxl5
          go_wp2_with (at_builtin; go_loud (refine wpList_append_mine _ rfl (.tmp 73) (.tmp 75) _ rfl 33 i0 _ 2 16 Try.underlying27 hi0 hz0 hz1 hz2 rfl (by omega) (.slice (some ⟨gg, oo, none⟩) ln co) ln (hitsC s out) rfl (by exact (hsO_ln HLN.out (HO6.out.alloc _))) _ 1 1 [.int .i64 (xa : Int), .int .i64 (xa : Int)] rfl rfl (by exact news_pushs rfl rfl) (by simp [Value.oneCell']) (by omega) (by simp only [maxLen]; omega) (by omega) _ rfl ?_); intro g7 o7 c7 w7 hown7 hgrow7 hat7; have ho7 : Only (fun k => (Value.slice (some ⟨gg, oo, none⟩) ln co).ownBlock = some k) w6 w7 := ((Only.refl _ w6).alloc _).grown hgrow7 (fun k hk _ => hk); have hx7 := HX6.out.only ho7 (fun h => absurd (HXN.out _ h) (by simp)); have HO7 := Lib.hid (hits_snoc (s := s) (w := w7) (v := .slice (some ⟨g7, o7, none⟩) (ln + 1) c7) (l := out) (a := a) (e := e) (by rw [HXA.out, HXE.out, HLN.out]; exact hown7)); have HB7 := Lib.hid (HB6.out.trans (ho7.below HB6.out.size HK.out)); have HK7 := Lib.hid (zs_far (o := o7) (n := ln + 1) (c := c7) (B := w2.heap.size) HK.out hat7 (by have := HB6.out.size; simp; omega)); have t1 := hx7.cell 1; have hxl7 := hx7.lt; simp only [List.getElem?_toArray, List.getElem?_cons_succ, List.getElem?_cons_zero] at t1; clear hown7 hgrow7 hat7 ho7 hx7)
          go_roundw
          case rel => exact ⟨e, fu, out ++ [(a, e)], ln + 1, by rw [HXE.out], by have := HAE.out; omega, by show (out ++ [(a, e)]).length = _; rw [List.length_append, HLN.out]; rfl, fewH_app HFW.out HGA.out HAE.out.1 HNS.out, (fun z hz => by rw [List.getLast?_append] at hz; simp at hz; subst hz; exact Nat.le_refl _), HO7.out, HK7.out, HB7.out, HR2.out, by show _ ≤ _; have := HFU.out; rw [HXE.out]; omega⟩
          case measure => have hge := HXG.out; show (70 - (ln + 1)) * 100 + (70 - ((xa : Int)).toNat) < (70 - ln) * 100 + (70 - ((xg : Int)).toNat); omega
    · have hxlt : xa < xe := HXL.out (by have := HAE.out; omega)
      have hxx : ((xa : Int) == (xe : Int)) = false := by simp; omega
      have hxx2 : ¬ xa = xe := by omega
      have hskip : ¬ (a = e ∧ out.getLast?.map (·.2) = some e) := fun h => hne h.1
      have HNS := Lib.hid hskip
      have HR2 : Hid (allR L m fu e (out ++ [(a, e)]) = R) := by have := HR1.out; rw [if_neg hskip] at this; exact this
      clear hskip hne
      go_quiet (fail)
      have ho6 : HsO s (w5.drewN nq) (.slice Ao ln co) out := Own.drewN HO5.out nq
      have hb6 := below_drewN HB5.out nq
      have ht6 := HT5.out.drewN nq
      have hx6 := HX5.out.drewN nq
      have hpv6 : PV s (w5.drewN nq) q (some ⟨q, off, none⟩) 0 (m + 1) := HPV5.out.under (below_drewN (Below.refl _ _) nq)
      generalize w5.drewN nq = w6 at ho6 hb6 ht6 hx6 hpv6 ⊢
      have HO6 := Lib.hid ho6
      have HB6 := Lib.hid hb6
      have HT6 := Lib.hid ht6
      have HX6 := Lib.hid hx6
      have HPV6 := Lib.hid hpv6
      clear hxx hxx2 hxlt
      have r1 := hx6.cell 1
      have r0 := hx6.cell 0
      have hxl6 := hx6.lt
      simp only [List.getElem?_toArray, List.getElem?_cons_succ, List.getElem?_cons_zero] at r0 r1
      clear ho6 hb6 ht6 hx6 hpv6 u0 u1 hxl5
      go_wp2_with (at_builtin; go_loud (refine wpList_append_mine _ rfl (.tmp 73) (.tmp 75) _ rfl 33 i0 _ 2 16 Try.underlying27 hi0 hz0 hz1 hz2 rfl (by omega) (.slice Ao ln co) ln (hitsC s out) rfl (by exact (hsO_ln HLN.out (HO6.out.alloc _))) _ 1 1 [.int .i64 (xa : Int), .int .i64 (xe : Int)] rfl rfl (by exact news_pushs rfl rfl) (by simp [Value.oneCell']) (by omega) (by simp only [maxLen]; omega) (by omega) _ rfl ?_); intro g7 o7 c7 w7 hown7 hgrow7 hat7; have ho7 : Only (fun k => (Value.slice Ao ln co).ownBlock = some k) w6 w7 := ((Only.refl _ w6).alloc _).grown hgrow7 (fun k hk _ => hk); have hx7 := HX6.out.only ho7 (fun h => absurd (HXN.out _ h) (by simp)); have HO7 := Lib.hid (hits_snoc (s := s) (w := w7) (v := .slice (some ⟨g7, o7, none⟩) (ln + 1) c7) (l := out) (a := a) (e := e) (by rw [HXA.out, HXE.out, HLN.out]; exact hown7)); have HB7 := Lib.hid (HB6.out.trans (ho7.below HB6.out.size HK.out)); have HK7 := Lib.hid (zs_far (o := o7) (n := ln + 1) (c := c7) (B := w2.heap.size) HK.out hat7 (by have := HB6.out.size; simp; omega)); have t1 := hx7.cell 1; have hxl7 := hx7.lt; simp only [List.getElem?_toArray, List.getElem?_cons_succ, List.getElem?_cons_zero] at t1; clear hown7 hgrow7 hat7 ho7 hx7)
      go_roundw
      case rel => exact ⟨e, fu, out ++ [(a, e)], ln + 1, by rw [HXE.out], by have := HAE.out; omega, by show (out ++ [(a, e)]).length = _; rw [List.length_append, HLN.out]; rfl, fewH_app HFW.out HGA.out HAE.out.1 HNS.out, (fun z hz => by rw [List.getLast?_append] at hz; simp at hz; subst hz; exact Nat.le_refl _), HO7.out, HK7.out, HB7.out, HR2.out, by show _ ≤ _; have := HFU.out; rw [HXE.out]; omega⟩
      case measure => have hge := HXG.out; show (70 - (ln + 1)) * 100 + (70 - ((xe : Int)).toNat) < (70 - ln) * 100 + (70 - ((xg : Int)).toNat); omega
end Go.Proofs.Ytjfkppbfckgckaa
namespace Go.Proofs.Ytjfkppbfckgckaa
open Go.RowKit Go.Rb
attribute [local irreducible] Go.wpQuiet
set_option maxRecDepth 20000

theorem hitV_agg (s : ByteArray) (R : Option (Nat × Nat)) : ∃ a b : Int, hitV s R = .agg #[.int .i64 a, .int .i64 b] := by
  cases R with
  | none => exact ⟨0, 0, rfl⟩
  | some x => exact ⟨_, _, rfl⟩
theorem isFrom_fn {s : ByteArray} {g z a b : _} (h : IsFrom s g z a) (h' : IsFrom s g z b) : a = b := by
  obtain ⟨h1, h2, h3, h4⟩ := h
  obtain ⟨k1, k2, k3, k4⟩ := h'
  rcases Nat.lt_trichotomy a b with hlt | heq | hgt
  · have := k3 a h1 hlt
    have := h4 (by omega)
    omega
  · exact heq
  · have := h3 b k1 hgt
    have := k4 (by omega)
    omega
set_option maxHeartbeats 4000000 in
theorem firstM_any {p : List Ins} {n : Nat} (hn : p.length = n) (hn0 : 0 < n) (hn2 : n ≤ 2000) (hok : RightI p) (hset : ∀ (i : Nat) (t : Ins), p[i]? = some t → t.set.length ≤ 1000) {s : ByteArray} (hs8 : s.size ≤ 60) {A : Option Addr} {cp : Nat} (hcp : n ≤ cp) {L : Nat → Option Nat} (hL : ∀ k, k ≤ (decT s).length → IsLast p (rsL s) k (L k)) (z : Int) (w : World) {B : Nat} (hB : B ≤ w.heap.size) (hP : PRd w B A p) :
    Calls Try.prog 20 #[.slice A n cp, .string s, .int .i64 z] w fun e w' => (∃ R, FirstIs s L z R ∧ e = .returned (.tuple #[hitV s R, .bool R.isSome])) ∧ Below w.heap.size w w' := by
  have hml := decT_len s
  have hbr := below_al (Below.refl w.heap.size w) (.cells #[.int .i64 0, .int .i64 0] 33)
  have HRB0 := Lib.hid (Blk.new w 33 #[.int .i64 0, .int .i64 0])
  have hP0 : PRd (w.alloc (.cells #[.int .i64 0, .int .i64 0] 33)) B A p := hP.below (hbr.mono hB)
  have hsz0 : (w.alloc (.cells #[.int .i64 0, .int .i64 0] 33)).heap.size = w.heap.size + 1 := by simp
  have HRT : Hid (Calls Try.prog 26 #[.slice A n cp] (w.alloc (.cells #[.int .i64 0, .int .i64 0] 33)) fun e w' => e = .returned (.bool true) ∧ Below (w.alloc (.cells #[.int .i64 0, .int .i64 0] 33)).heap.size (w.alloc (.cells #[.int .i64 0, .int .i64 0] 33)) w') := by
    have h := progRight_any (p.map toIn) A n cp _ (hP0.ins (by omega)) (by simp [hn]) (by omega) hcp
    rw [(rightP_iff hn).2 ⟨hok, hn0⟩] at h
    exact h
  have HFIRST := Lib.hid (fun (B c : Nat) (N : Int) (S : Nat → Prop) (q : Nat) (Ap : Option Addr) (g len cc : Nat) (W : World) (h1 : CrewS W B c A cp s n N S) (h2 : N ≤ 90000000) (h3 : PRd W B A p) (h4 : PV s W q Ap g len) (h5 : ¬ S q) (h6 : len ≤ cc) => first_any hn hn0 hn2 hok hset (by omega : s.size ≤ 800) hcp hL W h1 h2 h3 h4 h5 h6)
  have HBR := Lib.hid hbr
  obtain ⟨m, hm⟩ : ∃ m, (decT s).length = m := ⟨_, rfl⟩
  have HM := Lib.hid hm
  rw [hm] at hml
  have HP := Lib.hid hP
  have HBW := Lib.hid hB
  clear hn hok hset hL hP hB hm hP0 hbr
  go_enter Try.func20, Try.ntmps20
  go_wp2_with fail
  refine HRT.out.mono ?_
  rintro e1 w1 ⟨rfl, hb1⟩
  have hs1 := hb1.size
  rw [hsz0] at hs1
  have HB1 := Lib.hid (below_trans HBR.out hb1)
  have HRB1 : Hid (Blk w1 w.heap.size 33 #[.int .i64 0, .int .i64 0]) := HRB0.out.below hb1 (by rw [hsz0]; omega)
  have HBG := Lib.hid (begun_any A n cp s w1 hn2)
  clear hb1 HRT hsz0
  go_wp2_with fail
  refine HBG.out.mono ?_
  rintro e2 w2 ⟨c, ta, ma, tb, mb, rfl, hcr, hb2⟩
  have HCR := Lib.hid (crewS_new hcr)
  obtain ⟨S, hS⟩ : ∃ S, CS c ta ma tb mb (.slice none 0 0) (.slice none 0 0) = S := ⟨_, rfl⟩
  rw [hS] at HCR
  have HB2 := Lib.hid (below_trans HB1.out hb2)
  have HB12 := Lib.hid hb2
  have HPL := Lib.hid (places_any s w2 (by omega))
  clear hcr hb2 hS HBG
  go_wp2_with fail
  refine HPL.out.mono ?_
  rintro e3 w3 ⟨v, rfl, hz, hk, hb3⟩
  obtain ⟨q, off, cc, rfl, hcc, hob, hpv⟩ := pv_new hz
  have hq2 := hk q hob
  rw [HM.out] at hcc hpv ⊢
  have HPV := Lib.hid hpv
  have HC3 := Lib.hid (HCR.out.under hb3)
  have HB3 := Lib.hid (below_trans HB2.out hb3)
  have hs2 := HB12.out.size
  have hs3 : w2.heap.size ≤ w3.heap.size := hb3.size
  have hSlt : ∀ k, S k → k < w2.heap.size ∧ w1.heap.size ≤ k := HCR.out.lt
  have HSLT := Lib.hid hSlt
  have HP3 : Hid (PRd w3 w1.heap.size A p) := (HP.out.below (HB3.out.mono HBW.out)).more (by have := HBW.out; omega)
  have HQ0 : Hid (¬ S q) := fun h => by have := (hSlt q h).1; omega
  have HRB3 : Hid (Blk w3 w.heap.size 33 #[.int .i64 0, .int .i64 0]) := HRB1.out.below (below_trans HB12.out hb3) (by omega)
  have HBH := Lib.hid (behind_any z hpv hcc (by omega))
  clear hz hk hb3 hob hpv hSlt HPL
  go_wp2_with fail
  refine HBH.out.mono ?_
  rintro e4 w4 ⟨⟨A4, g4, len4, c4, rfl, hpv4, hc4, hfr⟩, rfl⟩
  have hln : len4 = m + 1 - g4 := by have := hpv4.ln; rw [HM.out] at this; exact this
  have hcall := HFIRST.out w1.heap.size c 0 S q A4 g4 len4 c4 w4 HC3.out (by omega) HP3.out hpv4 HQ0.out hc4
  have HCALL := Lib.hid hcall
  have HFR := Lib.hid hfr
  have HLN := Lib.hid hln
  clear hpv4 hfr hln hcall HBH hc4
  go_wp2_with fail
  refine HCALL.out.mono ?_
  rintro e5 w5 ⟨rfl, S5, -, ho5, -⟩
  obtain ⟨R, hR⟩ : ∃ R, firstL L len4 g4 = R := ⟨_, rfl⟩
  rw [hR]
  have HF : Hid (FirstIs s L z R) := fun g hg => by
    obtain rfl := isFrom_fn hg HFR.out
    rw [← hR, HLN.out, HM.out]
  obtain ⟨xa, xb, hab⟩ := hitV_agg s R
  have HAB := Lib.hid hab
  obtain ⟨bb, hbb⟩ : ∃ bb, R.isSome = bb := ⟨_, rfl⟩
  have HBB := Lib.hid hbb
  rw [hab, hbb]
  have hrb5 := HRB3.out.only ho5 (fun h => by have := (HSLT.out _ h).2; omega)
  have HB5 := Lib.hid (HB3.out.trans (ho5.below HB3.out.size (fun k hk => by have := (HSLT.out _ hk).2; omega)))
  have HRB5 := Lib.hid hrb5
  have y0 := hrb5.cell 0
  have y1' := hrb5.cell 1
  have z0 := hrb5.frozen 0
  have z1 := hrb5.frozen 1
  have hrl := hrb5.lt
  simp only [List.getElem?_toArray, List.getElem?_cons_succ, List.getElem?_cons_zero] at y0 y1'
  clear hR hab hbb hrb5 ho5 HCALL
  go_wp2_with fail
  have hb2 := (HRB5.out.set_ 0 (.int .i64 xa)).set_ 1 (.int .i64 xb)
  have ho2 := (HB5.out.setCell (p := ⟨w.heap.size, 0, none⟩) (Nat.le_refl _) (.int .i64 xa)).setCell (p := ⟨w.heap.size, 1, none⟩) (Nat.le_refl _) (.int .i64 xb)
  generalize (w5.setCell ⟨w.heap.size, 0, none⟩ (.int .i64 xa)).setCell ⟨w.heap.size, 1, none⟩ (.int .i64 xb) = w9 at hb2 ho2 ⊢
  have x0 := hb2.cell 0
  have x1 := hb2.cell 1
  simp at x0 x1
  have HO9 := Lib.hid ho2
  clear hb2 ho2 y0 y1' z0 z1
  try simp only [Exit.inBlock, Exit.then]
  refine bodyPost_ret (by simp [results, Try.results20, go_sem, x0, x1]; try rfl) rfl ?_
  exact ⟨⟨R, HF.out, by rw [HAB.out, HBB.out]⟩, HO9.out⟩
end Go.Proofs.Ytjfkppbfckgckaa
namespace Go.Proofs.Ytjfkppbfckgckaa
open Go.RowKit Go.Rb
attribute [local irreducible] Go.wpQuiet
set_option maxRecDepth 20000

theorem noRight {p : List Ins} {n : Nat} (hn : p.length = n) (hn2 : n ≤ 2000) (hr : rightP n (p.map toIn) = false) {A : Option Addr} {cp : Nat} (hcp : n ≤ cp) (w : World) {B : Nat} (hB : B ≤ w.heap.size) (hP : PRd w B A p) :
    Calls Try.prog 26 #[.slice A n cp] w fun e w' => e = .returned (.bool false) ∧ Below w.heap.size w w' := by
  have h := progRight_any (p.map toIn) A n cp w (hP.ins hB) (by simp [hn]) (by omega) hcp
  rw [hr] at h
  exact h
set_option maxHeartbeats 1000000 in
theorem noAll {p : List Ins} {n : Nat} (hn : p.length = n) (hn2 : n ≤ 2000) (hr : rightP n (p.map toIn) = false) (s : ByteArray) {A : Option Addr} {cp : Nat} (hcp : n ≤ cp) (w : World) {B : Nat} (hB : B ≤ w.heap.size) (hP : PRd w B A p) :
    Calls Try.prog 12 #[.slice A n cp, .string s] w fun e w' => e = .returned (.slice none 0 0) ∧ Below w.heap.size w w' := by
  have HRT := Lib.hid (noRight hn hn2 hr hcp w hB hP)
  clear hn hr hP hB
  go_enter Try.func12, Try.ntmps12
  go_wp2_with fail
  refine HRT.out.mono ?_
  rintro e1 w1 ⟨rfl, hb1⟩
  have HB1 := Lib.hid hb1
  clear hb1 HRT
  go_wp2_with fail
  go_returns
  exact ⟨rfl, HB1.out⟩
set_option maxHeartbeats 1000000 in
theorem noLong {p : List Ins} {n : Nat} (hn : p.length = n) (hn2 : n ≤ 2000) (hr : rightP n (p.map toIn) = false) (s : ByteArray) (z : Int) {A : Option Addr} {cp : Nat} (hcp : n ≤ cp) (w : World) {B : Nat} (hB : B ≤ w.heap.size) (hP : PRd w B A p) :
    Calls Try.prog 15 #[.slice A n cp, .string s, .int .i64 z] w fun e w' => e = .returned (.tuple #[.int .i64 0, .bool false]) ∧ Below w.heap.size w w' := by
  have HRT := Lib.hid (noRight hn hn2 hr hcp w hB hP)
  clear hn hr hP hB
  go_enter Try.func15, Try.ntmps15
  go_wp2_with fail
  refine HRT.out.mono ?_
  rintro e1 w1 ⟨rfl, hb1⟩
  have HB1 := Lib.hid hb1
  clear hb1 HRT
  go_wp2_with fail
  go_returns
  exact ⟨rfl, HB1.out⟩
set_option maxHeartbeats 1000000 in
theorem noFirst {p : List Ins} {n : Nat} (hn : p.length = n) (hn2 : n ≤ 2000) (hr : rightP n (p.map toIn) = false) (s : ByteArray) (z : Int) {A : Option Addr} {cp : Nat} (hcp : n ≤ cp) (w : World) {B : Nat} (hB : B ≤ w.heap.size) (hP : PRd w B A p) :
    Calls Try.prog 20 #[.slice A n cp, .string s, .int .i64 z] w fun e w' => e = .returned (.tuple #[hitV s none, .bool false]) ∧ Below w.heap.size w w' := by
  have hbr := below_al (Below.refl w.heap.size w) (.cells #[.int .i64 0, .int .i64 0] 33)
  have hP0 : PRd (w.alloc (.cells #[.int .i64 0, .int .i64 0] 33)) B A p := hP.below (hbr.mono hB)
  have hsz0 : (w.alloc (.cells #[.int .i64 0, .int .i64 0] 33)).heap.size = w.heap.size + 1 := by simp
  have HRT := Lib.hid (noRight hn hn2 hr hcp (w.alloc (.cells #[.int .i64 0, .int .i64 0] 33)) (by omega) hP0)
  have HRB0 := Lib.hid (Blk.new w 33 #[.int .i64 0, .int .i64 0])
  have HBR := Lib.hid hbr
  clear hn hr hP hB hP0 hbr
  go_enter Try.func20, Try.ntmps20
  go_wp2_with fail
  refine HRT.out.mono ?_
  rintro e1 w1 ⟨rfl, hb1⟩
  have hs1 := hb1.size
  rw [hsz0] at hs1
  have HB1 := Lib.hid (below_trans HBR.out hb1)
  have hrb5 : Blk w1 w.heap.size 33 #[.int .i64 0, .int .i64 0] := HRB0.out.below hb1 (by rw [hsz0]; omega)
  have HRB5 := Lib.hid hrb5
  have y0 := hrb5.cell 0
  have y1' := hrb5.cell 1
  have z0 := hrb5.frozen 0
  have z1 := hrb5.frozen 1
  have hrl := hrb5.lt
  simp only [List.getElem?_toArray, List.getElem?_cons_succ, List.getElem?_cons_zero] at y0 y1'
  clear hb1 HRT hsz0 hrb5
  go_wp2_with fail
  have hb2 := (HRB5.out.set_ 0 (.int .i64 0)).set_ 1 (.int .i64 0)
  have ho2 := (HB1.out.setCell (p := ⟨w.heap.size, 0, none⟩) (Nat.le_refl _) (.int .i64 0)).setCell (p := ⟨w.heap.size, 1, none⟩) (Nat.le_refl _) (.int .i64 0)
  generalize (w1.setCell ⟨w.heap.size, 0, none⟩ (.int .i64 0)).setCell ⟨w.heap.size, 1, none⟩ (.int .i64 0) = w9 at hb2 ho2 ⊢
  have x0 := hb2.cell 0
  have x1 := hb2.cell 1
  simp at x0 x1
  have HO9 := Lib.hid ho2
  clear hb2 ho2 y0 y1' z0 z1
  try simp only [Exit.inBlock, Exit.then]
  refine bodyPost_ret (by simp [results, Try.results20, go_sem, x0, x1]; try rfl) rfl ?_
  exact ⟨rfl, HO9.out⟩
end Go.Proofs.Ytjfkppbfckgckaa
namespace Go.Proofs.Ytjfkppbfckgckaa
open Go.RowKit Go.Rb
attribute [local irreducible] Go.wpQuiet
set_option maxRecDepth 20000

def hcs (l : List (Int × Int)) : List Value := l.flatMap fun h => [.int .i64 h.1, .int .i64 h.2]
theorem hcs_get : ∀ (l : List (Int × Int)) (i : Nat) (h : i < l.length), (hcs l)[i * 2]? = some (.int .i64 l[i].1) ∧ (hcs l)[i * 2 + 1]? = some (.int .i64 l[i].2)
  | [], i, h => absurd h (by simp)
  | x :: l, 0, _ => ⟨rfl, rfl⟩
  | x :: l, i + 1, h => by
    obtain ⟨h1, h2⟩ := hcs_get l i (by simpa using h)
    have e : (i + 1) * 2 = i * 2 + 1 + 1 := by omega
    rw [e]
    exact ⟨h1, h2⟩
theorem take_eq_all {l1 l2 : List (Int × Int)} {n : Nat} (h1 : l1.length = n) (h2 : l2.length = n) (h : l1.take n = l2.take n) : l1 = l2 := by
  rw [List.take_of_length_le (by omega), List.take_of_length_le (by omega)] at h
  exact h
theorem take_ne {l1 l2 : List (Int × Int)} {i : Nat} {x y : Int × Int} (h1 : l1[i]? = some x) (h2 : l2[i]? = some y) (h : x ≠ y) : decide (l1 = l2) = false := by
  rw [decide_eq_false_iff_not]
  intro e
  rw [e, h2] at h1
  injection h1 with h1
  exact h h1.symm
set_option maxHeartbeats 2000000 in
theorem sameH_any {l1 l2 : List (Int × Int)} {A1 A2 : Option Addr} {n1 c1 n2 c2 B1 B2 : Nat} (w : World) (e1 : l1.length = n1) (e2 : l2.length = n2) (h1 : Rd w B1 2 A1 n1 (hcs l1)) (h2 : Rd w B2 2 A2 n2 (hcs l2)) (hn : n1 ≤ 1000000) (hn2 : n2 ≤ 1000000) :
    Calls Try.prog 11 #[.slice A1 n1 c1, .slice A2 n2 c2] w fun e w' => e = .returned (.bool (decide (l1 = l2))) ∧ ∃ q, w' = w.drewN q := by
  have HR1 := Lib.hid h1
  have HR2 := Lib.hid h2
  have HL1 := Lib.hid e1
  have HL2 := Lib.hid e2
  obtain ⟨R, hR⟩ : ∃ R, decide (l1 = l2) = R := ⟨_, rfl⟩
  have HR := Lib.hid hR
  rw [hR]
  clear h1 h2 e1 e2 hR
  by_cases hnn : n1 = n2
  · subst hnn
    go_enter Try.func11, Try.ntmps11
    go_wp2_with fail
    go_loopw [5] (fun iv wr => ∃ i q : Nat, i ≤ n1 ∧ iv = .int .i64 i ∧ wr = w.drewN q ∧ Hid (l1.take i = l2.take i)) (fun iv _ => n1 - (intOf iv).toNat)
    case atStart => exact ⟨0, 0, by omega, rfl, rfl, rfl⟩
    case round =>
      obtain ⟨i, q, hi, rfl, rfl, HT⟩ := hrel
      by_cases hlt : i < n1
      · have i1 : (i : Int) < (n1 : Int) := by omega
        have i2 : (0 : Int) ≤ (i : Int) := by omega
        obtain ⟨pa, po, rfl, -, hcell⟩ := HR1.out.2 (by omega)
        obtain ⟨pb, qo, rfl, -, hcell'⟩ := HR2.out.2 (by omega)
        obtain ⟨h1, h2⟩ := hcs_get l1 i (by rw [HL1.out]; exact hlt)
        obtain ⟨h3, h4⟩ := hcs_get l2 i (by rw [HL2.out]; exact hlt)
        have x1 := hcell (i * 2) (by omega)
        have x2 := hcell (i * 2 + 1) (by omega)
        have y1 := hcell' (i * 2) (by omega)
        have y2 := hcell' (i * 2 + 1) (by omega)
        rw [h1] at x1
        rw [h2, ← Nat.add_assoc] at x2
        rw [h3] at y1
        rw [h4, ← Nat.add_assoc] at y2
        have g1 : l1[i]? = some (l1[i]'(by rw [HL1.out]; exact hlt)) := List.getElem?_eq_getElem _
        have g2 : l2[i]? = some (l2[i]'(by rw [HL2.out]; exact hlt)) := List.getElem?_eq_getElem _
        generalize (l1[i]'(by rw [HL1.out]; exact hlt)) = p1 at *
        generalize (l2[i]'(by rw [HL2.out]; exact hlt)) = p2 at *
        obtain ⟨a, b⟩ := p1
        obtain ⟨a', b'⟩ := p2
        simp only at x1 x2 y1 y2
        have G1 := Lib.hid g1
        have G2 := Lib.hid g2
        clear hcell h1 h2 hcell' h3 h4 g1 g2
        by_cases ha : a = a'
        · subst ha
          by_cases hb : b = b'
          · subst hb
            go_wp2_with fail
            go_quiet (fail)
            go_wp2_with fail
            go_roundw
            case rel => exact ⟨i + 1, q + nq, by omega, by go_num, by simp, by show _ = _; rw [List.take_add_one, List.take_add_one, HT.out, G1.out, G2.out]⟩
            case measure => simp [intOf]; omega
          · have HF : Hid (R = false) := by show _ = _; rw [← HR.out]; exact take_ne G1.out G2.out (fun e => hb (by injection e))
            have hb1 : (b == b') = false := by simpa using hb
            go_wp2_with fail
            go_quiet (fail)
            go_wp2_with fail
            go_ret
            exact ⟨by rw [HF.out]; rfl, q + nq, by simp⟩
        · have HF : Hid (R = false) := by show _ = _; rw [← HR.out]; exact take_ne G1.out G2.out (fun e => ha (by injection e))
          have ha1 : (a == a') = false := by simpa using ha
          go_wp2_with fail
          go_quiet (fail)
          go_wp2_with fail
          go_ret
          exact ⟨by rw [HF.out]; rfl, q + nq, by simp⟩
      · have i1 : ¬ (i : Int) < (n1 : Int) := by omega
        obtain rfl : i = n1 := by omega
        have HF : Hid (R = true) := by show _ = _; rw [← HR.out]; exact decide_eq_true (take_eq_all HL1.out HL2.out HT.out)
        go_wp2_with fail
        go_ret
        exact ⟨by rw [HF.out]; rfl, _, rfl⟩
  · have HF : Hid (R = false) := by show _ = _; rw [← HR.out]; exact decide_eq_false (fun e => hnn (by rw [← HL1.out, ← HL2.out, e]))
    have hnn1 : ((n1 : Int) == (n2 : Int)) = false := by simp; omega
    have hnn2 : ¬ (n1 : Int) = (n2 : Int) := by omega
    go_enter Try.func11, Try.ntmps11
    go_wp2_with fail
    go_ret
    exact ⟨by rw [HF.out]; rfl, 0, rfl⟩
end Go.Proofs.Ytjfkppbfckgckaa
