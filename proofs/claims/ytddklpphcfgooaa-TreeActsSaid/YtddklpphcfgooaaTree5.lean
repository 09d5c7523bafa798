/-
  The tree beside a law's own memory ('TI'); a line of nodes; the contract of reedbedlaw15.awake: it returns true; no condition beyond those that each theorem states.
-/
import Derived.Test.YtddklpphcfgooaaTree4
namespace Go.Proofs.Ytddklpphcfgooaa
open Go.RowKit Go.Rb

/-- A tree that lies from block B on, and not in T. -/
def TI (B : Nat) (T : Nat → Prop) (w : World) (t : Nat) (s : TS) : Prop := B ≤ w.heap.size ∧ (∀ k, T k → k < w.heap.size) ∧ Tr s ∧ ∃ S, Rep w S t s ∧ ∀ k, S k → B ≤ k ∧ ¬ T k
/-- What a call has done to it. -/
def TDid (B : Nat) (T : Nat → Prop) (w : World) (t : Nat) (s' : TS) (w' : World) : Prop := TI B T w' t s' ∧ Only (fun k => B ≤ k ∧ ¬ T k) w w'
def NoT : Nat → Prop := fun _ => False

section
variable {B t : Nat} {T T' U : Nat → Prop} {w w' : World} {s s' : TS}
theorem TI.frame (h : TI B T w t s) (hb : Only U w w') (hU : ∀ k, U k → T k ∨ w.heap.size ≤ k) (hT : ∀ k, T' k → (T k ∨ w.heap.size ≤ k) ∧ k < w'.heap.size) : TI B T' w' t s := by
  obtain ⟨hB, hTl, hTr, S, ⟨av, ks, hR⟩, hS⟩ := h
  refine ⟨Nat.le_trans hB hb.size, fun k hk => (hT k hk).2, hTr, S, ⟨av, ks, hR.frame hb fun k hk hu => ?_⟩, fun k hk => ⟨(hS k hk).1, fun ht => ?_⟩⟩
  · rcases hU k hu with h | h
    · exact (hS k hk).2 h
    · have := hR.lt k hk; omega
  · rcases (hT k ht).1 with h | h
    · exact (hS k hk).2 h
    · have := hR.lt k hk; omega
theorem TI.below (h : TI B T w t s) (hb : Below w.heap.size w w') : TI B T w' t s :=
  h.frame (U := fun k => w.heap.size ≤ k) (Only.of_below hb) (fun _ hk => .inr hk) (fun k hk => ⟨.inl hk, Nat.lt_of_lt_of_le (h.2.1 k hk) hb.size⟩)
theorem TI.drewN (h : TI B T w t s) (q : Nat) : TI B T (w.drewN q) t s := h.below (below_drewN (Below.refl _ w) q)
theorem TI.tr (h : TI B T w t s) : Tr s := h.2.2.1
theorem TI.nn (h : TI B T w t s) : s.n ≤ 256 := by
  obtain ⟨_, _, _, S, ⟨_, _, hR⟩, _⟩ := h
  exact hR.nn
theorem TDid.below (h : TDid B T w t s' w') (hB : B ≤ w.heap.size) : Below B w w' := h.2.below hB fun _ hk => hk.1
theorem add_in (h : TI B T w t s) (p : Nat) (hp : p < s.n) (hn : s.n < 256) :
    Calls Try.prog 10 #[pp t, .int .i64 (p : Int)] w fun e w' => e = .returned (.tuple #[.int .i64 (s.n : Int), .int .i64 0]) ∧ TDid B T w t (addS s p) w' := by
  obtain ⟨hB, hTl, hTr, S, hR, hS⟩ := h
  have hc := add_any (p : Int) w hR ⟨by omega, by omega⟩ hn (by have := hTr.kb (p : Int).toNat; omega)
  rw [Int.toNat_natCast] at hc
  refine hc.mono fun e w' ⟨h1, h2, S', h3, h4⟩ => ⟨h1, ⟨Nat.le_trans hB h2.size, fun k hk => Nat.lt_of_lt_of_le (hTl k hk) h2.size, tr_add hTr hp, S', h4, fun k hk => ?_⟩, h2.mono fun k _ hk => hS k hk⟩
  rcases h3 k hk with h5 | h5
  · exact hS k h5
  · exact ⟨Nat.le_trans hB h5, fun ht => by have := hTl k ht; omega⟩
theorem addfull_in (h : TI B T w t s) (i : Int) (hi : thereB s i) (hn : ¬ s.n < 256) :
    Calls Try.prog 10 #[pp t, .int .i64 i] w fun e w' => e = .returned (.tuple #[.int .i64 0, .int .i64 16]) ∧ w = w' := by
  obtain ⟨_, _, _, S, hR, _⟩ := h; exact add_full i w hR hi hn
theorem addbad_in (h : TI B T w t s) (i : Int) (hi : ¬ thereB s i) :
    Calls Try.prog 10 #[pp t, .int .i64 i] w fun e w' => e = .returned (.tuple #[.int .i64 0, .int .i64 2]) ∧ w = w' := by
  obtain ⟨_, _, _, S, hR, _⟩ := h; exact add_bad i w hR hi
theorem cancelbad_in (h : TI B T w t s) (i c : Int) (hi : ¬ (thereB s i ∧ c ≠ 0)) :
    Calls Try.prog 9 #[pp t, .int .i64 i, .int .i64 c] w fun e w' => e = .returned (.tuple #[.int .i64 0, .int .i64 2]) ∧ w = w' := by
  obtain ⟨_, _, _, S, hR, _⟩ := h; exact cancel_bad i c w hR hi
theorem cancel_in (h : TI B T w t s) (n : Nat) (c : Int) (hn : n < s.n) (hc : c ≠ 0) :
    Calls Try.prog 9 #[pp t, .int .i64 (n : Int), .int .i64 c] w fun e w' => ∃ (k : Nat) (ca' : List Int), e = .returned (.tuple #[.int .i64 (k : Int), .int .i64 0]) ∧ k + ca'.count 0 = s.ca.count 0 ∧ Mk (Und s.up n) c s.ca ca' ∧ TDid B T w t (s.wca ca') w' := by
  obtain ⟨hB, hTl, hTr, S, hR, hS⟩ := h
  exact (cancel_any n c w hR hTr hn hc).mono fun e w' ⟨k, h1, ca', h2, h3, h4, h5, h6⟩ =>
    ⟨k, ca', h1, h2, h3, ⟨Nat.le_trans hB h4.size, fun k hk => Nat.lt_of_lt_of_le (hTl k hk) h4.size, h6, S, h5, hS⟩, h4.mono fun k _ hk => hS k hk⟩
theorem cause_in (h : TI B T w t s) (i : Int) : Calls Try.prog 11 #[pp t, .int .i64 i] w fun e w' => e = .returned (.int .i64 (causeO s i)) ∧ w = w' := by
  obtain ⟨_, _, _, S, hR, _⟩ := h; exact cause_any i w hR
theorem parent_in (h : TI B T w t s) (i : Int) : Calls Try.prog 19 #[pp t, .int .i64 i] w fun e w' => e = .returned (.int .i64 (parentO s i)) ∧ w = w' := by
  obtain ⟨_, _, _, S, hR, _⟩ := h; exact parent_any i w hR
theorem size_in (h : TI B T w t s) : Calls Try.prog 12 #[pp t] w fun e w' => e = .returned (.int .i64 (s.n : Int)) ∧ w = w' := by
  obtain ⟨_, _, _, S, hR, _⟩ := h; exact size_any w hR
theorem below_in (h : TI B T w t s) (i : Int) :
    Calls Try.prog 13 #[pp t, .int .i64 i] w fun e w' => ∃ v, e = .returned v ∧ Below w.heap.size w w' ∧ Own w' 3 1 v (belowO s i).length ((belowO s i).map nV) ∧ ∀ q, v.ownBlock = some q → w.heap.size ≤ q := by
  obtain ⟨_, _, hTr, S, hR, _⟩ := h; exact below_any i w hR hTr
theorem new_in (w : World) (T : Nat → Prop) (hT : ∀ k, T k → k < w.heap.size) (hB : B ≤ w.heap.size) :
    Calls Try.prog 8 #[] w fun e w' => ∃ t, e = .returned (pp t) ∧ Below w.heap.size w w' ∧ TI B T w' t rootS :=
  (new_any w).mono fun e w' ⟨t, S, h1, h2, h3, h4⟩ => ⟨t, h1, h2, Nat.le_trans hB h2.size, fun k hk => Nat.lt_of_lt_of_le (hT k hk) h2.size, tr_root, S, h3, fun k hk => ⟨Nat.le_trans hB (h4 k hk), fun ht => by have := hT k ht; have := h4 k hk; omega⟩⟩
end

/-- Nodes in a line: j+1 of them. -/
def lineS : Nat → TS
  | 0 => rootS
  | j + 1 => addS (lineS j) j
theorem line_n : ∀ j, (lineS j).n = j + 1
  | 0 => rfl
  | j + 1 => by have := line_n j; simp only [lineS, addS, TS.n, List.length_append, List.length_singleton] at *; omega
theorem line_ca : ∀ j, (lineS j).ca = List.replicate (j + 1) 0
  | 0 => rfl
  | j + 1 => by
    rw [lineS, addS, line_ca j, List.replicate_succ' (n := j + 1)]
    congr 1
    simp [List.getD_eq_getElem?_getD, List.getElem?_replicate]
theorem line_up : ∀ j i, i ≤ j → (lineS j).up.getD i 0 = (i : Int) - 1
  | 0, i, h => by obtain rfl : i = 0 := by omega
                  rfl
  | j + 1, i, h => by
    have hl : (lineS j).up.length = j + 1 := line_n j
    rw [lineS, addS]
    by_cases hi : i ≤ j
    · simp only; rw [getD_snoc_lt (by omega)]; exact line_up j i hi
    · obtain rfl : i = j + 1 := by omega
      simp only; rw [getD_snoc_eq hl.symm]; omega
theorem line_tr : ∀ j, Tr (lineS j)
  | 0 => tr_root
  | j + 1 => tr_add (line_tr j) (by rw [line_n]; omega)
theorem line_und (j a i : Nat) (hi : i ≤ j) : Und (lineS j).up a i ↔ a ≤ i := by
  have hl : (lineS j).up.length = j + 1 := line_n j
  constructor
  · exact fun h => h.le (line_tr j).sh
  · induction i with
    | zero => intro h; obtain rfl : a = 0 := by omega
              exact .here
    | succ i ih =>
      intro h
      by_cases he : a = i + 1
      · subst he; exact .here
      · refine .step (by omega) (by omega) ?_
        have : upN (lineS j).up (i + 1) = i := by unfold upN; rw [line_up j _ hi]; omega
        rw [this]
        exact ih (by omega) (by omega)
theorem getD_ext {a b : List Int} (hl : a.length = b.length) (h : ∀ i, i < a.length → a.getD i 0 = b.getD i 0) : a = b := by
  apply List.ext_getElem?
  intro i
  by_cases hi : i < a.length
  · rw [getD_get (d := 0) hi, getD_get (d := 0) (by omega), h i hi]
  · rw [List.getElem?_eq_none (by omega), List.getElem?_eq_none (by omega)]
/-- The causes along a line. -/
def lineC (k : Nat) (f : Nat → Int) : List Int := (List.range k).map f
theorem lineC_getD (k : Nat) (f : Nat → Int) (i : Nat) (hi : i < k) : (lineC k f).getD i 0 = f i := by
  unfold lineC
  rw [List.getD_eq_getElem?_getD, List.getElem?_map, List.getElem?_range hi]; rfl
theorem lineC_len (k : Nat) (f : Nat → Int) : (lineC k f).length = k := by simp [lineC]
theorem lineC_count (m : Nat) (f : Nat → Int) (h0 : ∀ i, i < m → f i = 0) (h1 : ∀ i, m ≤ i → f i ≠ 0) : ∀ k, (lineC k f).count 0 = min m k
  | 0 => by simp [lineC]
  | k + 1 => by
    have := lineC_count m f h0 h1 k
    unfold lineC at *
    rw [List.range_succ, List.map_append, List.count_append, this]
    by_cases hk : k < m
    · simp [h0 k hk]; omega
    · simp [h1 k (by omega)]; omega
/-- The first mark on a line. -/
theorem line_mk1 {j a : Nat} {c : Int} {ca' : List Int} (ha : a ≤ j) (hm : Mk (Und (lineS j).up a) c (lineS j).ca ca') : ca' = lineC (j + 1) (fun i => if a ≤ i then c else 0) := by
  have hl := hm.len
  rw [line_ca, List.length_replicate] at hl
  have hz : ∀ i, (lineS j).ca.getD i 0 = 0 := by
    intro i
    rw [line_ca, List.getD_eq_getElem?_getD, List.getElem?_replicate]
    split <;> rfl
  refine getD_ext (by rw [hl, lineC_len]) fun i hi => ?_
  rw [lineC_getD _ _ _ (by omega)]
  by_cases h : a ≤ i
  · rw [if_pos h]; exact hm.yes i (by rw [line_ca, List.length_replicate]; omega) ((line_und j a i (by omega)).2 h) (hz i)
  · rw [if_neg h, hm.off i (fun hu => h ((line_und j a i (by omega)).1 hu)), hz]
/-- The second. -/
theorem line_mk2 {j a b : Nat} {c d : Int} {ca' : List Int} (hc : c ≠ 0) (hm : Mk (Und (lineS j).up b) d (lineC (j + 1) (fun i => if a ≤ i then c else 0)) ca') :
    ca' = lineC (j + 1) (fun i => if a ≤ i then c else if b ≤ i then d else 0) := by
  have hl := hm.len
  rw [lineC_len] at hl
  refine getD_ext (by rw [hl, lineC_len]) fun i hi => ?_
  have hg := lineC_getD (j + 1) (fun i => if a ≤ i then c else 0) i (by omega)
  rw [lineC_getD _ _ _ (by omega)]
  by_cases h : a ≤ i
  · rw [if_pos h] at hg ⊢
    rw [hm.no i (by rw [hg]; exact hc), hg]
  · rw [if_neg h] at hg ⊢
    by_cases h2 : b ≤ i
    · rw [if_pos h2]; exact hm.yes i (by rw [lineC_len]; omega) ((line_und j b i (by omega)).2 h2) hg
    · rw [if_neg h2, hm.off i (fun hu => h2 ((line_und j b i (by omega)).1 hu)), hg]

set_option maxRecDepth 20000 in
set_option maxHeartbeats 2000000 in
theorem awake_any (w : World) : Calls Try.prog 7 #[] w fun e w' => e = .returned (.bool true) ∧ Below w.heap.size w w' := by
  have hN : Hid (Calls Try.prog 8 #[] w fun e w' => ∃ t, e = .returned (pp t) ∧ Below w.heap.size w w' ∧ TI w.heap.size NoT w' t rootS) :=
    new_in (B := w.heap.size) w NoT (fun _ h => h.elim) (Nat.le_refl _)
  have hA1 : Hid (∀ t W, TI w.heap.size NoT W t rootS → Calls Try.prog 10 #[pp t, .int .i64 0] W fun e w' => e = .returned (.tuple #[.int .i64 1, .int .i64 0]) ∧ TDid w.heap.size NoT W t (lineS 1) w') :=
    fun t W h => add_in h 0 (by decide) (by decide)
  have hA2 : Hid (∀ t W, TI w.heap.size NoT W t (lineS 1) → Calls Try.prog 10 #[pp t, .int .i64 1] W fun e w' => e = .returned (.tuple #[.int .i64 2, .int .i64 0]) ∧ TDid w.heap.size NoT W t (lineS 2) w') :=
    fun t W h => add_in h 1 (by decide) (by decide)
  have hC : Hid (∀ t W, TI w.heap.size NoT W t (lineS 2) → Calls Try.prog 9 #[pp t, .int .i64 1, .int .i64 12] W fun e w' => e = .returned (.tuple #[.int .i64 2, .int .i64 0]) ∧ TDid w.heap.size NoT W t ((lineS 2).wca [0, 12, 12]) w') :=
    fun t W h => (cancel_in h 1 12 (by decide) (by decide)).mono fun e w' ⟨k, ca', h1, h2, h3, h4⟩ => by
      have h5 := line_mk1 (j := 2) (by omega) h3
      have h6 : lineC (2 + 1) (fun i => if 1 ≤ i then (12 : Int) else 0) = [0, 12, 12] := by decide
      rw [h6] at h5
      subst h5
      obtain rfl : k = 2 := by
        have h7 : ([0, 12, 12] : List Int).count 0 = 1 := by decide
        have h8 : (lineS 2).ca.count 0 = 3 := by decide
        omega
      exact ⟨h1, h4⟩
  have hQ : Hid (∀ t W (i : Int), TI w.heap.size NoT W t ((lineS 2).wca [0, 12, 12]) → Calls Try.prog 11 #[pp t, .int .i64 i] W fun e w' => e = .returned (.int .i64 (causeO ((lineS 2).wca [0, 12, 12]) i)) ∧ W = w') :=
    fun t W i h => cause_in h i
  have hq0 : causeO ((lineS 2).wca [0, 12, 12]) 0 = 0 := by decide
  have hq2 : causeO ((lineS 2).wca [0, 12, 12]) 2 = 12 := by decide
  unfold pp at *
  go_enter Try.func7, Try.ntmps7
  go_wp2_with (first
    | (go_at_call 11; refine (hQ.out _ _ _ HI4.out).mono ?_; rintro e5 w5 ⟨rfl, rfl⟩; first | rw [hq0] | rw [hq2])
    | (go_at_call 9; refine (hC.out _ _ HI3.out).mono ?_; rintro e4 w4 ⟨rfl, hd4⟩; have HB4 := Lib.hid (HB3.out.trans (hd4.below HI3.out.1)); have HI4 := Lib.hid hd4.1; clear hd4)
    | (go_at_call 10; refine (hA2.out _ _ HI2.out).mono ?_; rintro e3 w3 ⟨rfl, hd3⟩; have HB3 := Lib.hid (HB2.out.trans (hd3.below HI2.out.1)); have HI3 := Lib.hid hd3.1; clear hd3)
    | (go_at_call 10; refine (hA1.out _ _ HI1.out).mono ?_; rintro e2 w2 ⟨rfl, hd2⟩; have HB2 := Lib.hid (HB1.out.trans (hd2.below HI1.out.1)); have HI2 := Lib.hid hd2.1; clear hd2)
    | (go_at_call 8; refine hN.out.mono ?_; rintro e1 w1 ⟨t, rfl, hb1, hi1⟩; have HB1 := Lib.hid hb1; have HI1 := Lib.hid hi1; clear hb1 hi1))
  go_ret
  exact ⟨rfl, HB4.out⟩
end Go.Proofs.Ytddklpphcfgooaa
