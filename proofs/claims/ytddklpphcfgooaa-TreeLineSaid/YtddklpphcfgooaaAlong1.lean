/-
  The walk of reedbedlaw15.TreeLine: it returns true; no condition beyond those that each theorem states.
-/
import Derived.Test.YtddklpphcfgooaaTree5
import Derived.Lib.MinMax
import Derived.WideKeyPair
namespace Go.Proofs.Ytddklpphcfgooaa
open Go.RowKit Go.Rb

theorem line_belowU (J i : Nat) : ∀ k, k ≤ J + 1 → (belowU (lineS J) (i : Int) k).length = k - 1 - i
  | 0, _ => by simp [belowU]
  | k + 1, hk => by
    rw [belowU_step, List.length_append, line_belowU J i k (by omega), Int.toNat_natCast]
    by_cases h : 0 ≤ (i : Int) ∧ 0 < k ∧ Und (lineS J).up i (upN (lineS J).up k)
    · rw [if_pos h]
      obtain ⟨_, h1, h2⟩ := h
      have hu : upN (lineS J).up k = k - 1 := by unfold upN; rw [line_up J k (by omega)]; omega
      rw [hu, line_und J i (k - 1) (by omega)] at h2
      simp only [List.length_singleton]; omega
    · rw [if_neg h]
      simp only [List.length_nil]
      rcases Nat.eq_zero_or_pos k with rfl | h1
      · omega
      · have hu : upN (lineS J).up k = k - 1 := by unfold upN; rw [line_up J k (by omega)]; omega
        rw [hu, line_und J i (k - 1) (by omega)] at h
        have : ¬ i ≤ k - 1 := fun hh => h ⟨by omega, h1, hh⟩
        omega
theorem line_below (J i : Nat) (ca : List Int) : (belowO ((lineS J).wca ca) (i : Int)).length = J - i := by
  have h := line_belowU J i (J + 1) (Nat.le_refl _)
  have e : belowO ((lineS J).wca ca) (i : Int) = belowU (lineS J) (i : Int) (J + 1) := by
    unfold belowO belowU
    rw [show ((lineS J).wca ca).n = J + 1 from line_n J]
    rfl
  rw [e, h]; omega
theorem line_cause (J i : Nat) (f : Nat → Int) (hi : i ≤ J) : causeO ((lineS J).wca (lineC (J + 1) f)) (i : Int) = f i := by
  have hn : ((lineS J).wca (lineC (J + 1) f)).n = J + 1 := line_n J
  unfold causeO
  rw [if_pos ⟨by omega, by rw [hn]; omega⟩, Int.toNat_natCast]
  exact lineC_getD _ _ _ (by omega)
/-- The causes behind the first and the second. -/
def cau1 (a : Nat) (i : Nat) : Int := if a ≤ i then 12 else 0
def cau2 (a b : Nat) (i : Nat) : Int := if a ≤ i then 12 else if b ≤ i then 13 else 0

set_option maxRecDepth 20000 in
set_option maxHeartbeats 4000000 in
theorem along_any (n x y : Nat) (w : World) (hn : n < 256) (hx : x < 256) (hy : y < 256) :
    Calls Try.prog 4 #[.int .u8 (n : Int), .agg #[.int .u8 (x : Int), .int .u8 (y : Int)]] w fun e w' => e = .returned (.bool true) ∧ Below w.heap.size w w' := by
  have hA : Hid (∀ w, Calls Try.prog 7 #[] w fun e w' => e = .returned (.bool true) ∧ Below w.heap.size w w') := awake_any
  have hN : Hid (∀ w, Calls Try.prog 8 #[] w fun e w' => ∃ t, e = .returned (.pointer (some ⟨t, 0, none⟩)) ∧ Below w.heap.size w w' ∧ TI w.heap.size NoT w' t rootS) :=
    fun w => new_in (B := w.heap.size) w NoT (fun _ h => h.elim) (Nat.le_refl _)
  have et : (n : Int).tmod 60 = ((n % 60 : Nat) : Int) := by rw [Int.tmod_eq_emod_of_nonneg (by omega)]; omega
  obtain ⟨J, hJ⟩ : ∃ J, J = 1 + n % 60 := ⟨_, rfl⟩
  have hJ1 : J ≤ 60 := by omega
  have hJ0 : 1 ≤ J := by omega
  generalize hr : n % 60 = r at *
  have ek : (2 : Int) + (r : Int) = ((J + 1 : Nat) : Int) := by omega
  obtain ⟨K, hK⟩ : ∃ K, K = J + 1 := ⟨_, rfl⟩
  rw [← hK] at ek
  have hK1 : K ≤ 61 := by omega
  have hK0 : 2 ≤ K := by omega
  have HK := Lib.hid hK
  clear hJ hK
  go_enter Try.func4, Try.ntmps4
  go_wp2_with (first
    | (go_at_call 7; refine (hA.out _).mono ?_; rintro e1 w1 ⟨rfl, hb1⟩; have HB1 := Lib.hid hb1; clear hb1)
    | (go_at_call 8; refine (hN.out _).mono ?_; rintro e2 w2 ⟨t, rfl, hb2, hi2⟩; have HB2 := Lib.hid hb2; have HI2 := Lib.hid hi2; clear hb2 hi2))
  have HBW : Hid (Below w.heap.size w w1) := (below_al (Below.refl _ w) _).trans (HB1.out.mono (by simp))
  have HX : Hid (∀ W, Below w1.heap.size w1 W → W.cell? ⟨w.heap.size, 0, none⟩ = some (.int .u8 (x : Int)) ∧ W.cell? ⟨w.heap.size, 1, none⟩ = some (.int .u8 (y : Int))) := by
    intro W hW
    have h1 := Blk.new w 32 #[.int .u8 (x : Int), .int .u8 (y : Int)]
    have h2 := h1.below HB1.out (by simp)
    have h3 := h2.below hW h2.lt
    exact ⟨by rw [h3.cell]; rfl, by rw [h3.cell]; rfl⟩
  clear HB1
  go_loopw [7] (fun i wr => ∃ m j : Nat, m = j + 1 ∧ m ≤ K ∧ i = .int .i64 m ∧ Below w1.heap.size w1 wr ∧ TI w1.heap.size NoT wr t (lineS j)) (fun i _ => K - (intOf i).toNat)
  case atStart => exact ⟨1, 0, rfl, by omega, rfl, HB2.out, HI2.out⟩
  case round =>
    obtain ⟨m, j, hmj, hmK, rfl, hbw, hin⟩ := hrel
    by_cases hlt : m < K
    · have i5 : (m : Int) < (K : Int) := by omega
      have hsub : (m : Int) - 1 = (j : Int) := by omega
      have HMJ := Lib.hid hmj
      have hAdd : Hid (Calls Try.prog 10 #[.pointer (some ⟨t, 0, none⟩), .int .i64 (j : Int)] wr fun e w' => e = .returned (.tuple #[.int .i64 (m : Int), .int .i64 0]) ∧ TDid w1.heap.size NoT wr t (lineS (j + 1)) w') := by
        have := add_in hin j (by rw [line_n]; omega) (by rw [line_n]; omega)
        rw [line_n, ← hmj] at this
        exact this
      have HB := Lib.hid hbw; have HI := Lib.hid hin
      clear hbw hin hmj
      go_wp2_with (go_at_call 10; refine hAdd.out.mono ?_; rintro e6 w6 ⟨rfl, hd6⟩; have HB6 := Lib.hid (HB.out.trans (hd6.below HI.out.1)); have HI6 := Lib.hid hd6.1; clear hd6)
      go_roundw
      case rel => exact ⟨m + 1, j + 1, by rw [HMJ.out], by omega, by go_num, HB6.out, HI6.out⟩
      case measure => simp [intOf]; omega
    · obtain rfl : m = K := by omega
      obtain rfl : j = J := by have := HK.out; omega
      have hxm : (x : Int).tmod (m : Int) = ((x % m : Nat) : Int) := by rw [Int.tmod_eq_emod_of_nonneg (by omega)]; omega
      have hym : (y : Int).tmod (m : Int) = ((y % m : Nat) : Int) := by rw [Int.tmod_eq_emod_of_nonneg (by omega)]; omega
      have ha : x % m < m := Nat.mod_lt _ (by omega)
      have hb : y % m < m := Nat.mod_lt _ (by omega)
      have hm0 : ((m : Int) == 0) = false := by rw [beq_eq_false_iff_ne]; omega
      generalize x % m = a at *
      generalize y % m = b at *
      obtain ⟨cx, cy⟩ := HX.out wr hbw
      have hC1 : Hid (∀ W, TI w1.heap.size NoT W t (lineS j) → Calls Try.prog 9 #[.pointer (some ⟨t, 0, none⟩), .int .i64 (a : Int), .int .i64 12] W fun e w' => e = .returned (.tuple #[.int .i64 ((m - a : Nat) : Int), .int .i64 0]) ∧ TDid w1.heap.size NoT W t ((lineS j).wca (lineC (j + 1) (cau1 a))) w') :=
        fun W hin => (cancel_in hin a 12 (by rw [line_n]; omega) (by decide)).mono fun e w' ⟨k, ca', h1, h2, h3, h4⟩ => by
          have h5 : ca' = lineC (j + 1) (cau1 a) := line_mk1 (by omega) h3
          rw [line_ca, List.count_replicate_self, h5, lineC_count a (cau1 a) (fun i hi => if_neg (by omega)) (fun i hi => by unfold cau1; rw [if_pos hi]; decide)] at h2
          rw [h5] at h4
          obtain rfl : k = m - a := by omega
          exact ⟨h1, h4⟩
      have hC2 : Hid (∀ W, TI w1.heap.size NoT W t ((lineS j).wca (lineC (j + 1) (cau1 a))) → Calls Try.prog 9 #[.pointer (some ⟨t, 0, none⟩), .int .i64 (b : Int), .int .i64 13] W fun e w' => e = .returned (.tuple #[.int .i64 ((a - b : Nat) : Int), .int .i64 0]) ∧ TDid w1.heap.size NoT W t ((lineS j).wca (lineC (j + 1) (cau2 a b))) w') :=
        fun W hI => (cancel_in hI b 13 (by show b < (lineS j).n; rw [line_n]; omega) (by decide)).mono fun e w' ⟨k, ca', h1, h2, h3, h4⟩ => by
          have h5 : ca' = lineC (j + 1) (cau2 a b) := line_mk2 (a := a) (c := 12) (by decide) h3
          have h6 : (lineC (j + 1) (cau1 a)).count 0 = min a (j + 1) := lineC_count a (cau1 a) (fun i hi => if_neg (by omega)) (fun i hi => by unfold cau1; rw [if_pos hi]; decide) _
          have h7 : (lineC (j + 1) (cau2 a b)).count 0 = min (min a b) (j + 1) := lineC_count (min a b) (cau2 a b) (fun i hi => by unfold cau2; rw [if_neg (by omega), if_neg (by omega)])
            (fun i hi => by
              unfold cau2
              by_cases h : a ≤ i
              · rw [if_pos h]; decide
              · rw [if_neg h, if_pos (by omega)]; decide) _
          have h8 : ((lineS j).wca (lineC (j + 1) (cau1 a))).ca = lineC (j + 1) (cau1 a) := rfl
          rw [h8, h5, h6, h7] at h2
          rw [h5] at h4
          obtain rfl : k = a - b := by omega
          exact ⟨h1, h4⟩
      have hka : (m : Int) - (a : Int) = ((m - a : Nat) : Int) := by omega
      have hkb : max ((a : Int) - (b : Int)) 0 = ((a - b : Nat) : Int) := by omega
      have HB := Lib.hid hbw; have HI := Lib.hid hin
      have HMJ := Lib.hid hmj
      have hja : a ≤ j := by omega
      have hjb : b ≤ j := by omega
      clear hbw hin hmj hlt hmK
      generalize hkx : m - a = kx at *
      generalize hky : a - b = ky at *
      have HKX := Lib.hid hkx; have HKY := Lib.hid hky
      clear hkx hky
      go_wp2
      go_quiet (fail)
      have HID : Hid (TI w1.heap.size NoT (wr.drewN nq) t (lineS j)) := HI.out.drewN nq
      have HBD : Hid (Below w1.heap.size w1 (wr.drewN nq)) := below_drewN HB.out nq
      have HC1 : Hid (∀ W, TI w1.heap.size NoT W t (lineS j) → Calls Try.prog 9 #[.pointer (some ⟨t, 0, none⟩), .int .i64 (a : Int), .int .i64 12] W fun e w' => e = .returned (.tuple #[.int .i64 (kx : Int), .int .i64 0]) ∧ TDid w1.heap.size NoT W t ((lineS j).wca (lineC (j + 1) (cau1 a))) w') := hC1
      clear hC1 HI HB
      generalize wr.drewN nq = wq at *
      go_wp2_with (first
        | (go_at_call 9; refine (hC2.out _ HI5.out).mono ?_; rintro e6 w6 ⟨rfl, hd6⟩; have HB6 := Lib.hid (HB5.out.trans (hd6.below HI5.out.1)); have HI6 := Lib.hid hd6.1; clear hd6)
        | (go_at_call 9; refine (HC1.out _ HID.out).mono ?_; rintro e5 w5 ⟨rfl, hd5⟩; have HB5 := Lib.hid (HBD.out.trans (hd5.below HID.out.1)); have HI5 := Lib.hid hd5.1; clear hd5))
      go_loopw [16] (fun i wr => ∃ q : Nat, q ≤ m ∧ i = .int .i64 q ∧ Below w1.heap.size w1 wr ∧ TI w1.heap.size NoT wr t ((lineS j).wca (lineC (j + 1) (cau2 a b)))) (fun i _ => m - (intOf i).toNat)
      case atStart => exact ⟨0, by omega, rfl, HB6.out, HI6.out⟩
      case round =>
        obtain ⟨q, hq, rfl, hbw, hin⟩ := hrel
        by_cases hqm : q < m
        · have i5 : (q : Int) < (m : Int) := by omega
          have hqj : q ≤ j := by have := HMJ.out; omega
          have hcau := cause_in hin (q : Int)
          rw [line_cause j q _ hqj] at hcau
          have hbel := below_in hin (q : Int)
          rw [line_below] at hbel
          have HBEL := Lib.hid hbel
          have hmq : (m : Int) - 1 - (q : Int) = ((j - q : Nat) : Int) := by have := HMJ.out; omega
          have HB := Lib.hid hbw; have HI := Lib.hid hin
          clear hbw hin hbel
          generalize hjq : j - q = jq at *
          have HJQ := Lib.hid hjq
          clear hjq
          unfold pp at HBEL hcau
          by_cases h1 : a ≤ q
          · have hc2 : cau2 a b q = 12 := if_pos h1
            rw [hc2] at hcau
            have HCAU := Lib.hid hcau
            clear hcau hc2
            have i6 : (a : Int) ≤ (q : Int) := by omega
            go_wp2_with (first
              | (go_at_call 11; refine HCAU.out.mono ?_; rintro e7 w7 ⟨rfl, rfl⟩)
              | (go_at_call 13; refine HBEL.out.mono ?_; rintro e7 w7 ⟨v7, rfl, hb7, ho7, -⟩; obtain ⟨A7, c7, rfl, -, -⟩ := ho7.len_; have HB7 := Lib.hid (below_trans HB.out hb7); have HI7 := Lib.hid (HI.out.below hb7); clear hb7 ho7))
            go_roundw
            case rel => exact ⟨q + 1, by omega, by go_num, HB7.out, HI7.out⟩
            case measure => simp [intOf]; omega
          · have i6 : ¬ (a : Int) ≤ (q : Int) := by omega
            by_cases h2 : b ≤ q
            · have hc2 : cau2 a b q = 13 := by unfold cau2; rw [if_neg h1, if_pos h2]
              rw [hc2] at hcau
              have HCAU := Lib.hid hcau
              clear hcau hc2
              have i7 : (b : Int) ≤ (q : Int) := by omega
              go_wp2_with (first
                | (go_at_call 11; refine HCAU.out.mono ?_; rintro e7 w7 ⟨rfl, rfl⟩)
                | (go_at_call 13; refine HBEL.out.mono ?_; rintro e7 w7 ⟨v7, rfl, hb7, ho7, -⟩; obtain ⟨A7, c7, rfl, -, -⟩ := ho7.len_; have HB7 := Lib.hid (below_trans HB.out hb7); have HI7 := Lib.hid (HI.out.below hb7); clear hb7 ho7))
              go_roundw
              case rel => exact ⟨q + 1, by omega, by go_num, HB7.out, HI7.out⟩
              case measure => simp [intOf]; omega
            · have hc2 : cau2 a b q = 0 := by unfold cau2; rw [if_neg h1, if_neg h2]
              rw [hc2] at hcau
              have HCAU := Lib.hid hcau
              clear hcau hc2
              have i7 : ¬ (b : Int) ≤ (q : Int) := by omega
              go_wp2_with (first
                | (go_at_call 11; refine HCAU.out.mono ?_; rintro e7 w7 ⟨rfl, rfl⟩)
                | (go_at_call 13; refine HBEL.out.mono ?_; rintro e7 w7 ⟨v7, rfl, hb7, ho7, -⟩; obtain ⟨A7, c7, rfl, -, -⟩ := ho7.len_; have HB7 := Lib.hid (below_trans HB.out hb7); have HI7 := Lib.hid (HI.out.below hb7); clear hb7 ho7))
              go_roundw
              case rel => exact ⟨q + 1, by omega, by go_num, HB7.out, HI7.out⟩
              case measure => simp [intOf]; omega
        · obtain rfl : q = m := by omega
          have HB := Lib.hid hbw
          clear hbw hin
          go_wp2
          go_ret
          exact ⟨rfl, HBW.out.trans (HB.out.mono HBW.out.size)⟩
theorem along_any8 (a x y : Int) (w : World) (h0 : 0 ≤ a ∧ a < 256) (h1 : 0 ≤ x ∧ x < 256) (h2 : 0 ≤ y ∧ y < 256) :
    Calls Try.prog 4 #[.int .u8 a, .agg #[.int .u8 x, .int .u8 y]] w fun e w' => e = .returned (.bool true) ∧ Below w.heap.size w w' := by
  obtain ⟨k, rfl⟩ := Int.eq_ofNat_of_zero_le h0.1
  obtain ⟨i, rfl⟩ := Int.eq_ofNat_of_zero_le h1.1
  obtain ⟨j, rfl⟩ := Int.eq_ofNat_of_zero_le h2.1
  exact along_any k i j w (by omega) (by omega) (by omega)
end Go.Proofs.Ytddklpphcfgooaa
