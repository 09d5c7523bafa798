/-
  The law 'kinds' (DecodeKinds): its walk; no condition beyond those that each theorem states.
-/
import Derived.Test.YtoagjhhdijebmaaDec6
namespace Go.Proofs.Ytoagjhhdijebmaa
open Go.RowKit Go.Rb
attribute [local irreducible] Go.wpQuiet

def wantK (k : Int) (b : List UInt8) : Int := if k = 0 then if sureB b = true then (mkK b).1 else 0 else k
def st0 (k : Int) : DS := ⟨k, !decide (k = 0), [], false⟩
theorem take_kind (all : Bool) (s : DS) : (takeS all s).2.kind = (settleS all s).kind ∧ (takeS all s).2.sure = (settleS all s).sure := by
  unfold takeS; split <;> exact ⟨rfl, rfl⟩
theorem kind1 (k : Int) (b : List UInt8) : (wrS (st0 k) b).2.kind = wantK k b ∧ (wantK k b ≠ 0 → (wrS (st0 k) b).2.sure = true) := by
  obtain ⟨h1, h2⟩ := take_kind false { st0 k with held := (st0 k).held ++ b }
  unfold wrS
  rw [h1, h2]
  unfold settleS st0 wantK
  by_cases hk : k = 0
  · subst hk
    by_cases hs : sureB b = true
    · simp [hs]
    · simp [hs]
  · simp [hk]
theorem kind2 (S : DS) (x : List UInt8) (h : S.sure = true) : (wrS S x).2.kind = S.kind := by
  obtain ⟨h1, -⟩ := take_kind false { S with held := S.held ++ x }
  unfold wrS
  rw [h1]
  unfold settleS
  rw [if_pos h]
theorem mark_zero (b : List UInt8) : ((markP b).1 = 0 ∧ (markP b).2 = 0 ∧ (mkK b).1 = 1) ∨ ((markP b).1 ≠ 0 ∧ (mkK b).1 = (markP b).1) := by
  have h : (markP b).2 = 0 → (markP b).1 = 0 := by
    unfold markP
    split
    · intro h; exact absurd h (by decide)
    · split
      · intro h; exact absurd h (by decide)
      · split
        · intro h; exact absurd h (by decide)
        · intro _; rfl
  have h2 := (markP_bd b).2.2
  unfold mkK
  by_cases h0 : (markP b).2 = 0
  · left; rw [if_pos h0]; exact ⟨h h0, h0, rfl⟩
  · right; rw [if_neg h0]
    refine ⟨?_, rfl⟩
    rcases h2 h0 with h | h | h <;> (rw [h]; decide)
set_option maxRecDepth 20000 in
set_option maxHeartbeats 8000000 in
theorem kinds_small (k : Int) (x y : List UInt8) (A A2 : Option Addr) (n c n2 c2 : Nat) (w : World) (hk1 : 0 ≤ k) (hk2 : k ≤ 3) (hr : Rd w w.heap.size 1 A n (x.map bV)) (hr2 : Rd w w.heap.size 1 A2 n2 (y.map bV)) (hn : n ≤ 100) (hn2 : n2 ≤ 100) :
    Calls Try.prog 3 #[.int .i64 k, .slice A n c, .slice A2 n2 c2] w fun e w' => e = .returned (.bool true) ∧ Below w.heap.size w w' := by
  have HA : Hid (∀ w, Calls Try.prog 7 #[] w fun e w' => e = .returned (.bool true) ∧ Below w.heap.size w w') := awake_any
  have hxl : x.length = n := by simpa using hr.1
  have hyl : y.length = n2 := by simpa using hr2.1
  have HN := Lib.hid (fun W => new_ok k W hk1 hk2)
  have hwf : WfS (wrS (st0 k) x).2 := take_wf false _ (fun h => by simp [st0] at h; show k = 1 ∨ k = 2 ∨ k = 3; omega)
  have hcl : (wrS (st0 k) x).2.closed = false := take_cl false _
  have hln : (wrS (st0 k) x).2.held.length ≤ x.length := by have := (take_len false { st0 k with held := (st0 k).held ++ x }).1; simpa [st0, wrS] using this
  have hk := kind1 k x
  have HW1 := Lib.hid (fun (p : Nat) (W : World) (h : Rep W p (st0 k)) (hB : Below w.heap.size w W) => dwrite_any x A n c w.heap.size W h (hr.below hB) hB.size rfl (fun h => by simp [st0] at h; show k = 1 ∨ k = 2 ∨ k = 3; omega) (by simp [st0]; omega))
  have hkk := kind2 (wrS (st0 k) x).2 y
  generalize wrS (st0 k) x = S1 at *
  have HW2 := Lib.hid (fun (p : Nat) (W : World) (h : Rep W p S1.2) (hB : Below w.heap.size w W) => dwrite_any y A2 n2 c2 w.heap.size W h (hr2.below hB) hB.size hcl hwf (by omega))
  generalize wrS S1.2 y = S2 at *
  have HK1 := Lib.hid (fun (p : Nat) (W : World) (h : Rep W p S1.2) => kind_any W h)
  have HK2 := Lib.hid (fun (p : Nat) (W : World) (h : Rep W p S2.2) => kind_any W h)
  rw [hk.1] at HK1 hkk
  have HC : Hid (∀ W, Below w.heap.size w W → (convert 22 9 (.slice A n c)).run Try.prog W = .ok (.string ⟨x.toArray⟩) W) := fun W hW => conv_rd (hr.below hW)
  have HRM := Lib.hid (fun W => refMark_any x W (by omega))
  have HRS := Lib.hid (refSure_any x)
  rw [← sure_eq x] at HRS
  have hmz := mark_zero x
  have i1 : ¬ k < 0 := by omega
  have i2 : ¬ 3 < k := by omega
  have i3 : ¬ (100 : Int) < (n : Int) := by omega
  have i4 : ¬ (100 : Int) < (n2 : Int) := by omega
  have hwd : wantK k x = if k = 0 then if sureB x = true then (mkK x).1 else 0 else k := rfl
  obtain ⟨want, hwant⟩ : ∃ m, wantK k x = m := ⟨_, rfl⟩
  rw [hwant] at HK1 hkk hk hwd
  have hks : want ≠ 0 → S2.2.kind = want := fun h => hkk (hk.2 h)
  have HOnly : Hid (∀ (q : Nat) (Wa Wb Wc : World), w.heap.size ≤ q → Below w.heap.size w Wa → Wa.heap.size ≤ Wb.heap.size → Only (fun k => k = q) Wa Wb → Below w.heap.size w Wb) := fun q Wa Wb Wc h1 h2 h3 h4 => h2.trans ⟨h4.os, h4.tape, h4.output, h4.size, fun k hk => h4.block k (by have := h2.size; omega) (fun h => by omega)⟩
  unfold pp at HN HW1 HW2 HK1 HK2
  unfold st0 at HW1
  clear hr hr2 hxl hyl hk1 hk2 hwf hcl hln hk hkk hwant
  generalize (⟨x.toArray⟩ : ByteArray) = bx at *
  by_cases h0 : k = 0
  · subst h0
    rw [if_pos rfl] at hwd
    by_cases hs : sureB x = true
    · rw [if_pos hs] at hwd
      rw [hs] at HRS
      obtain ⟨mp, hmp⟩ : ∃ m, markP x = m := ⟨_, rfl⟩
      rw [hmp] at HRM hmz
      obtain ⟨m1, m2⟩ := mp
      simp only at HRM hmz
      rw [← hwd] at hmz
      have hcs : (m1 = 0 ∧ want = 1) ∨ ((m1 == 0) = false ∧ want = m1 ∧ want ≠ 0) := by
        rcases hmz with ⟨h1, -, h2⟩ | ⟨h1, h2⟩
        · exact .inl ⟨h1, h2⟩
        · exact .inr ⟨by simpa using h1, h2, by rw [h2]; exact h1⟩
      clear hmz hwd hmp hs
      rcases hcs with ⟨rfl, rfl⟩ | ⟨h1, rfl, h2⟩
      · have HKS := Lib.hid (hks (by decide))
        clear hks
        go_enter Try.func3, Try.ntmps3
        go_wp2_with (first
          | (go_at_call 7; refine (HA.out _).mono ?_; rintro e1 w1 ⟨rfl, hb1⟩; have HB1 := Lib.hid hb1; clear hb1)
          | (go_at_call 8; refine (HN.out _).mono ?_; rintro e2 w2 ⟨rfl, hb2, hr2, -⟩; have HB2 := Lib.hid (below_trans HB1.out hb2); have HR2 := Lib.hid hr2; have HQ := Lib.hid HB1.out.size; clear hb2 hr2)
          | (go_at_call 9; (with_reducible refine (HW1.out _ _ HR2.out HB2.out).mono ?_); rintro e3 w3 ⟨rfl, hw3⟩; have HB3 := Lib.hid (HOnly.out _ _ _ w HQ.out HB2.out hw3.1.size hw3.1); have HR3 := Lib.hid hw3.2; have kc := HC.out _ HB3.out; clear hw3 HR2 HW1)
          | (go_at_call 10; refine (HRS.out _).mono ?_; rintro e4 w4 ⟨rfl, rfl⟩)
          | (go_at_call 11; refine (HRM.out _).mono ?_; rintro e5 w5 ⟨rfl, rfl⟩)
          | (go_at_call 12; (with_reducible refine (HK1.out _ _ HR3.out).mono ?_); rintro e6 w6 ⟨rfl, rfl⟩; clear HK1)
          | (go_at_call 9; (with_reducible refine (HW2.out _ _ HR3.out HB3.out).mono ?_); rintro e7 w7 ⟨rfl, hw7⟩; have HB7 := Lib.hid (HOnly.out _ _ _ w HQ.out HB3.out hw7.1.size hw7.1); have HR7 := Lib.hid hw7.2; clear hw7 kc)
          | (go_at_call 12; (with_reducible refine (HK2.out _ _ HR7.out).mono ?_); rw [HKS.out]; rintro e8 w8 ⟨rfl, rfl⟩))
        go_ret
        exact ⟨by simp, HB7.out⟩
      · have HKS := Lib.hid (hks h2)
        clear hks
        have h3 : (want == 0) = false := h1
        go_enter Try.func3, Try.ntmps3
        go_wp2_with (first
          | (go_at_call 7; refine (HA.out _).mono ?_; rintro e1 w1 ⟨rfl, hb1⟩; have HB1 := Lib.hid hb1; clear hb1)
          | (go_at_call 8; refine (HN.out _).mono ?_; rintro e2 w2 ⟨rfl, hb2, hr2, -⟩; have HB2 := Lib.hid (below_trans HB1.out hb2); have HR2 := Lib.hid hr2; have HQ := Lib.hid HB1.out.size; clear hb2 hr2)
          | (go_at_call 9; (with_reducible refine (HW1.out _ _ HR2.out HB2.out).mono ?_); rintro e3 w3 ⟨rfl, hw3⟩; have HB3 := Lib.hid (HOnly.out _ _ _ w HQ.out HB2.out hw3.1.size hw3.1); have HR3 := Lib.hid hw3.2; have kc := HC.out _ HB3.out; clear hw3 HR2 HW1)
          | (go_at_call 10; refine (HRS.out _).mono ?_; rintro e4 w4 ⟨rfl, rfl⟩)
          | (go_at_call 11; refine (HRM.out _).mono ?_; rintro e5 w5 ⟨rfl, rfl⟩)
          | (go_at_call 12; (with_reducible refine (HK1.out _ _ HR3.out).mono ?_); rintro e6 w6 ⟨rfl, rfl⟩; clear HK1)
          | (go_at_call 9; (with_reducible refine (HW2.out _ _ HR3.out HB3.out).mono ?_); rintro e7 w7 ⟨rfl, hw7⟩; have HB7 := Lib.hid (HOnly.out _ _ _ w HQ.out HB3.out hw7.1.size hw7.1); have HR7 := Lib.hid hw7.2; clear hw7 kc)
          | (go_at_call 12; (with_reducible refine (HK2.out _ _ HR7.out).mono ?_); rw [HKS.out]; rintro e8 w8 ⟨rfl, rfl⟩))
        go_ret
        exact ⟨by simp, HB7.out⟩
    · rw [if_neg hs] at hwd
      rw [show sureB x = false by simpa using hs] at HRS
      subst hwd
      clear hks hs hmz
      go_enter Try.func3, Try.ntmps3
      go_wp2_with (first
        | (go_at_call 7; refine (HA.out _).mono ?_; rintro e1 w1 ⟨rfl, hb1⟩; have HB1 := Lib.hid hb1; clear hb1)
        | (go_at_call 8; refine (HN.out _).mono ?_; rintro e2 w2 ⟨rfl, hb2, hr2, -⟩; have HB2 := Lib.hid (below_trans HB1.out hb2); have HR2 := Lib.hid hr2; have HQ := Lib.hid HB1.out.size; clear hb2 hr2)
        | (go_at_call 9; (with_reducible refine (HW1.out _ _ HR2.out HB2.out).mono ?_); rintro e3 w3 ⟨rfl, hw3⟩; have HB3 := Lib.hid (HOnly.out _ _ _ w HQ.out HB2.out hw3.1.size hw3.1); have HR3 := Lib.hid hw3.2; have kc := HC.out _ HB3.out; clear hw3 HR2 HW1)
        | (go_at_call 10; refine (HRS.out _).mono ?_; rintro e4 w4 ⟨rfl, rfl⟩)
        | (go_at_call 11; refine (HRM.out _).mono ?_; rintro e5 w5 ⟨rfl, rfl⟩)
        | (go_at_call 12; (with_reducible refine (HK1.out _ _ HR3.out).mono ?_); rintro e6 w6 ⟨rfl, rfl⟩; clear HK1)
        | (go_at_call 9; (with_reducible refine (HW2.out _ _ HR3.out HB3.out).mono ?_); rintro e7 w7 ⟨rfl, hw7⟩; have HB7 := Lib.hid (HOnly.out _ _ _ w HQ.out HB3.out hw7.1.size hw7.1); have HR7 := Lib.hid hw7.2; clear hw7 kc)
        | fail)
      go_ret
      exact ⟨by simp, HB7.out⟩
  · rw [if_neg h0] at hwd
    subst hwd
    have h1 : (want == 0) = false := by simpa using h0
    have HKS := Lib.hid (hks h0)
    clear hks h0 hmz
    go_enter Try.func3, Try.ntmps3
    go_wp2_with (first
      | (go_at_call 7; refine (HA.out _).mono ?_; rintro e1 w1 ⟨rfl, hb1⟩; have HB1 := Lib.hid hb1; clear hb1)
      | (go_at_call 8; refine (HN.out _).mono ?_; rintro e2 w2 ⟨rfl, hb2, hr2, -⟩; have HB2 := Lib.hid (below_trans HB1.out hb2); have HR2 := Lib.hid hr2; have HQ := Lib.hid HB1.out.size; clear hb2 hr2)
      | (go_at_call 9; (with_reducible refine (HW1.out _ _ HR2.out HB2.out).mono ?_); rintro e3 w3 ⟨rfl, hw3⟩; have HB3 := Lib.hid (HOnly.out _ _ _ w HQ.out HB2.out hw3.1.size hw3.1); have HR3 := Lib.hid hw3.2; have kc := HC.out _ HB3.out; clear hw3 HR2 HW1)
      | (go_at_call 10; refine (HRS.out _).mono ?_; rintro e4 w4 ⟨rfl, rfl⟩)
      | (go_at_call 11; refine (HRM.out _).mono ?_; rintro e5 w5 ⟨rfl, rfl⟩)
      | (go_at_call 12; (with_reducible refine (HK1.out _ _ HR3.out).mono ?_); rintro e6 w6 ⟨rfl, rfl⟩; clear HK1)
      | (go_at_call 9; (with_reducible refine (HW2.out _ _ HR3.out HB3.out).mono ?_); rintro e7 w7 ⟨rfl, hw7⟩; have HB7 := Lib.hid (HOnly.out _ _ _ w HQ.out HB3.out hw7.1.size hw7.1); have HR7 := Lib.hid hw7.2; clear hw7 kc)
      | (go_at_call 12; (with_reducible refine (HK2.out _ _ HR7.out).mono ?_); rw [HKS.out]; rintro e8 w8 ⟨rfl, rfl⟩))
    go_ret
    exact ⟨by simp, HB7.out⟩
set_option maxRecDepth 20000 in
set_option maxHeartbeats 4000000 in
theorem kinds_big (k : Int) (A A2 : Option Addr) (n c n2 c2 : Nat) (w : World) (h : ¬ (0 ≤ k ∧ k ≤ 3 ∧ n ≤ 100 ∧ n2 ≤ 100)) : Calls Try.prog 3 #[.int .i64 k, .slice A n c, .slice A2 n2 c2] w fun e w' => e = .returned (.bool true) ∧ Below w.heap.size w w' := by
  have HA : Hid (∀ w, Calls Try.prog 7 #[] w fun e w' => e = .returned (.bool true) ∧ Below w.heap.size w w') := awake_any
  have hc : k < 0 ∨ (¬ k < 0 ∧ 3 < k) ∨ (¬ k < 0 ∧ ¬ 3 < k ∧ (100 : Int) < (n : Int)) ∨ (¬ k < 0 ∧ ¬ 3 < k ∧ ¬ (100 : Int) < (n : Int) ∧ (100 : Int) < (n2 : Int)) := by omega
  clear h
  rcases hc with i1 | ⟨i1, i2⟩ | ⟨i1, i2, i3⟩ | ⟨i1, i2, i3, i4⟩
  all_goals
    go_enter Try.func3, Try.ntmps3
    go_wp2_with (first
      | (go_at_call 7; refine (HA.out _).mono ?_; rintro e2 w2 ⟨rfl, hb2⟩; have HB2 := Lib.hid (below_trans HB1.out hb2); clear hb2)
      | (go_at_call 7; refine (HA.out _).mono ?_; rintro e1 w1 ⟨rfl, hb1⟩; have HB1 := Lib.hid hb1; clear hb1))
    go_ret
    exact ⟨rfl, HB2.out⟩
theorem kinds_any (k : Int) (x y : List UInt8) (A A2 : Option Addr) (n c n2 c2 : Nat) (w : World) (hr : Rd w w.heap.size 1 A n (x.map bV)) (hr2 : Rd w w.heap.size 1 A2 n2 (y.map bV)) :
    Calls Try.prog 3 #[.int .i64 k, .slice A n c, .slice A2 n2 c2] w fun e w' => e = .returned (.bool true) ∧ Below w.heap.size w w' := by
  by_cases h : 0 ≤ k ∧ k ≤ 3 ∧ n ≤ 100 ∧ n2 ≤ 100
  · exact kinds_small k x y A A2 n c n2 c2 w h.1 h.2.1 hr hr2 h.2.2.1 h.2.2.2
  · exact kinds_big k A A2 n c n2 c2 w h
end Go.Proofs.Ytoagjhhdijebmaa
