/-
  The contracts of internal/strconv.numDigits and FormatInt, strconv.Itoa and Errno.Error, whatever numbers the table uint64pow10 holds; no condition beyond those that each theorem states.
-/
import Derived.Test.YtfadkkodamiohaaShelf
import Derived.Test.YtfadkkodamiohaaNote1
import Derived.Lib.Hide
import Derived.Lib.Strings
import Derived.Handy
import Derived.Lib.ItoaLen
namespace Go.Proofs.Ytfadkkodamiohaa
open Go.RowKit Go.Sort Go.Rb

/-- The table holds these numbers. -/
def Tab (G : Nat → Int) (w : World) : Prop := ∀ i, i < 20 → w.cell? ⟨0, i, none⟩ = some (.int .u64 (G i))
theorem Tab.lt {G : Nat → Int} {w : World} (h : Tab G w) : 0 < w.heap.size := by
  rcases Nat.eq_zero_or_pos w.heap.size with h0 | h1
  · have := h 0 (by omega); simp [World.cell?, h0] at this
  · exact h1
theorem Tab.below {G : Nat → Int} {w w' : World} (h : Tab G w) (hb : Below w.heap.size w w') : Tab G w' := fun i hi => (hb.cell (p := ⟨0, i, none⟩) h.lt).trans (h i hi)
theorem Tab.alloc {G : Nat → Int} {w : World} (h : Tab G w) (o : Obj) : Tab G (w.alloc o) := h.below (below_al (Below.refl _ w) o)
/-- How many digits the program counts. -/
def nd (G : Nat → Int) (u : Nat) : Nat := Lib.l10 (Lib.bitLen u) + (if G (Lib.l10 (Lib.bitLen u)) ≤ (u : Int) then 1 else 0)
theorem nd_le (G : Nat → Int) (u : Nat) (h1 : 1 ≤ u) (h2 : u < 18446744073709551616) : nd G u ≤ 20 := by
  have := (Lib.numDigits_eq u h1 h2).2
  unfold nd
  split <;> omega
theorem nd_lt (G : Nat → Int) (u : Nat) (h1 : 1 ≤ u) (h2 : u < 18446744073709551616) : u < 10 ^ (nd G u + 1) := by
  have h := (Lib.numDigits_eq u h1 h2).1
  have h3 := Lib.lt_pow_nDigits u
  refine Nat.lt_of_lt_of_le h3 (Nat.pow_le_pow_right (by omega) ?_)
  unfold nd
  split at h <;> split <;> omega
set_option maxHeartbeats 2000000 in
set_option maxRecDepth 100000 in
theorem num_any (G : Nat → Int) (u : Nat) (h1 : 1 ≤ u) (h2 : u < 18446744073709551616) (w : World) (hT : Tab G w) :
    Calls Try.prog 38 #[.int .u64 u] w fun e w' => e = .returned (.int .i64 (nd G u)) ∧ w' = w := by
  obtain ⟨hn, h19⟩ := Lib.numDigits_eq u h1 h2
  have hL : Lib.bitLen u ≤ 64 := Lib.bitLen_le u 64 (Nat.le_refl _) h2
  have hcell := hT (Lib.l10 (Lib.bitLen u)) (by omega)
  have hto : ((u : Int)).toNat = u := by omega
  obtain ⟨R, hR⟩ : ∃ R, nd G u = R := ⟨_, rfl⟩
  have hR' := hR
  unfold nd at hR'
  rw [hR]
  clear hR hn hT
  generalize hq : Lib.l10 (Lib.bitLen u) = q at hR' h19 hcell
  generalize hX : G q = X at hR' hcell
  clear hX
  have h20 : q < 20 := by omega
  have HR := Lib.hid hR'
  clear hR'
  go_enter Try.func38, Try.ntmps38
  go_wp2_with (first
    | (go_at_call 42; refine (Try.bits_Len64 _ _ (by omega) (by omega)).mono ?_; rintro e w' ⟨rfl, rfl⟩)
    | (go_at_call 41; refine (Try.internal_strconv_log10Pow2 _ (by first | exact hL | (rw [hto]; exact hL)) _).mono ?_; rintro e w' ⟨rfl, rfl⟩)
    | (go_at_call 43; refine (Try.internal_strconv_bool2_int _ _).mono ?_; rintro e w' ⟨rfl, rfl⟩))
  all_goals go_ret
  all_goals (
    refine ⟨?_, rfl⟩
    have hn := HR.out
    congr 2
    split at hn <;> simp_all <;> omega)
theorem below_grow_ {B : Nat} (w : World) (os : Array Obj) (hB : B ≤ w.heap.size) : Below B w (Go.Sort.grow w os) :=
  ⟨rfl, rfl, rfl, by simp [Go.Sort.grow], fun i hi => by
    show (w.heap ++ os)[i]? = _
    rw [Array.getElem?_append_left (by omega)]⟩
/-- The digits that the program writes for u. -/
def digs (G : Nat → Int) (u : Nat) : List UInt8 := if u < 100 then Lib.decDigits u else (fmt (nd G u) u (Array.replicate (nd G u) 0)).toList
theorem digs_len (G : Nat → Int) (u : Nat) (h2 : u < 18446744073709551616) : (digs G u).length ≤ 20 := by
  unfold digs
  split
  · rename_i h
    rw [Lib.decDigits_length]
    have := Lib.nDigits_le20 u h2
    omega
  · rw [Array.length_toList, fmt_size, Array.size_replicate]
    exact nd_le G u (by omega) h2
set_option maxHeartbeats 2000000 in
set_option maxRecDepth 100000 in
theorem fint_any (G : Nat → Int) (u : Nat) (h2 : u < 9223372036854775808) (w : World) (hT : Tab G w) :
    Calls Try.prog 36 #[.int .i64 u, .int .i64 10] w fun e w' => e = .returned (.string ⟨(digs G u).toArray⟩) ∧ Below w.heap.size w w' := by
  by_cases hs : u < 100
  · refine (Try.internal_strconv_FormatInt_10_small u hs w).mono ?_
    rintro e w' ⟨rfl, rfl⟩
    unfold digs
    rw [if_pos hs]
    exact ⟨rfl, Below.refl _ _⟩
  have hu1 : 1 ≤ u := by omega
  have hu64 : u < 18446744073709551616 := by omega
  have hN20 := nd_le G u hu1 hu64
  have hNlt := nd_lt G u hu1 hu64
  have HNUM := Lib.hid (num_any G u hu1 hu64)
  have HTA := Lib.hid (fun o => hT.alloc o)
  have hdig : digs G u = (fmt (nd G u) u (Array.replicate (nd G u) 0)).toList := if_neg hs
  rw [hdig]
  clear hdig hT
  generalize nd G u = N at *
  have hb3 : N ≤ 23 := by omega
  have hal : Try.prog.arrayLen 77 = 24 := by kernel_rfl
  have hsl1 : ∀ W, (Instr.sliceAt 77 (.pointer (some ⟨w.heap.size, 0, none⟩)) (some (.int .i64 1)) (some (.int .i64 (1 + (N : Int)))) none).run Try.prog W = .ok (.slice (some ⟨w.heap.size, 1, none⟩) N 23) W := fun W => by
    rw [run_sliceAt_array_lh W 77 ⟨w.heap.size, 0, none⟩ (by kernel_rfl) .i64 .i64 1 (1 + (N : Int)) (by omega) (by omega) (by rw [hal]; omega)]
    go_simp
    omega
  have hH0 := Lib.holds_zero w 77 N (by omega)
  have hfmt := format_any w.heap.size 1 23 u (Array.replicate N 0) (w.alloc (.cells Lib.zeros24 77)) hH0 (by rw [Array.size_replicate]; exact hNlt) hu64 (by rw [Array.size_replicate]; omega)
  rw [Array.size_replicate] at hfmt
  have HH0 := Lib.hid hH0
  clear hH0 hal hNlt
  go_enter Try.func36, Try.ntmps36
  go_wp2_with (go_at_call 38; refine (HNUM.out _ (HTA.out _)).mono ?_; rintro e w' ⟨rfl, rfl⟩)
  go_at_call 39
  refine hfmt.mono ?_
  rintro e w' ⟨rfl, k, dk, rfl, hF⟩
  have hdk : dk.size = N := by rw [hF, fmt_size, Array.size_replicate]
  have hcv : (convert 81 9 (.slice (some ⟨w.heap.size, 1, none⟩) N 23)).run Try.prog ((putRow (fun (b : UInt8) => Value.int .u8 (b.toNat : Int)) (w.alloc (.cells Lib.zeros24 77)) w.heap.size 1 dk).drewN k)
      = .ok (.string ⟨dk.toList.toArray⟩) ((putRow (fun (b : UInt8) => Value.int .u8 (b.toNat : Int)) (w.alloc (.cells Lib.zeros24 77)) w.heap.size 1 dk).drewN k) := by
    have h := run_convert_bytes_back (P := Try.prog) ((putRow (fun (b : UInt8) => Value.int .u8 (b.toNat : Int)) (w.alloc (.cells Lib.zeros24 77)) w.heap.size 1 dk).drewN k) 81 9 5 ⟨w.heap.size, 1, none⟩ 23 dk.toList Try.underlying81 Try.underlying5 Try.underlying9 (fun j hj => by
      have hj' : j < dk.size := by simpa using hj
      rw [Lib.add_plain, World.cell?_drewN, cell?_putRow (fun (b : UInt8) => Value.int .u8 (b.toNat : Int)) _ w.heap.size 1 _ dk HH0.out (by rw [hdk, Array.size_replicate]) j hj', getElem!_pos dk j hj', Array.getElem_toList])
    rw [Array.length_toList, hdk] at h
    exact h
  have HF := Lib.hid hF
  clear hF hdk
  go_wp2
  go_ret
  obtain ⟨os, eo⟩ := Lib.fin_pos w (.cells Lib.zeros24 77) dk k
  refine ⟨by rw [← HF.out]; show Ending.returned (.string ⟨dk⟩) = .returned (.string ⟨dk.toList.toArray⟩); rw [Array.toArray_toList], ?_⟩
  show Below _ _ ((putRow (fun (b : UInt8) => Value.int .u8 (b.toNat : Int)) (w.alloc (.cells Lib.zeros24 77)) w.heap.size 1 dk).drewN k)
  rw [eo]
  exact (below_drewN (Below.refl _ w) k).trans (below_grow_ _ os (Nat.le_refl _))
theorem itoa0_any (G : Nat → Int) (u : Nat) (h2 : u < 9223372036854775808) (w : World) (hT : Tab G w) :
    Calls Try.prog 35 #[.int .i64 u] w fun e w' => e = .returned (.string ⟨(digs G u).toArray⟩) ∧ Below w.heap.size w w' := by
  have HI := Lib.hid (fint_any G u h2 w hT)
  clear hT
  go_enter Try.func35, Try.ntmps35
  go_wp2_with (go_at_call 36; refine HI.out.mono ?_; rintro e1 w1 ⟨rfl, hb1⟩; have HB1 := Lib.hid hb1; clear hb1)
  go_ret
  exact ⟨rfl, HB1.out⟩
theorem itoa_any (G : Nat → Int) (u : Nat) (h2 : u < 9223372036854775808) (w : World) (hT : Tab G w) :
    Calls Try.prog 34 #[.int .i64 u] w fun e w' => e = .returned (.string ⟨(digs G u).toArray⟩) ∧ Below w.heap.size w w' := by
  have HI := Lib.hid (itoa0_any G u h2 w hT)
  clear hT
  go_enter Try.func34, Try.ntmps34
  go_wp2_with (go_at_call 35; refine HI.out.mono ?_; rintro e1 w1 ⟨rfl, hb1⟩; have HB1 := Lib.hid hb1; clear hb1)
  go_ret
  exact ⟨rfl, HB1.out⟩
/-- An errno's text. -/
def eText (G : Nat → Int) (a : Int) : ByteArray :=
  if a < 0 then ⟨#[114, 101, 101, 100, 98, 101, 100, 58, 32, 101, 114, 114, 111, 114]⟩ else ⟨#[114, 101, 101, 100, 98, 101, 100, 58, 32, 101, 114, 114, 111, 114, 32]⟩ ++ ⟨(digs G a.toNat).toArray⟩
theorem eText_size (G : Nat → Int) (a : Int) (h : a < 9223372036854775808) : (eText G a).size ≤ 35 := by
  unfold eText
  split
  · decide
  · rw [ByteArray.size_append]
    have := digs_len G a.toNat (by omega)
    show 15 + (digs G a.toNat).toArray.size ≤ 35
    simp only [List.size_toArray]
    omega
set_option maxHeartbeats 1000000 in
theorem error_any (G : Nat → Int) (a : Int) (h : a < 9223372036854775808) (w : World) (hT : Tab G w) :
    Calls Try.prog 33 #[.int .i64 a] w fun e w' => e = .returned (.string (eText G a)) ∧ Below w.heap.size w w' := by
  by_cases hn : a < 0
  · have F1 : decide (a < 0) = true := decide_eq_true hn
    have hx : eText G a = ⟨#[114, 101, 101, 100, 98, 101, 100, 58, 32, 101, 114, 114, 111, 114]⟩ := if_pos hn
    rw [hx]
    clear hx hT
    go_enter Try.func33, Try.ntmps33
    go_wp2_with fail
    go_ret
    exact ⟨rfl, Below.refl _ _⟩
  obtain ⟨u, rfl⟩ : ∃ u : Nat, a = u := ⟨a.toNat, by omega⟩
  have F1 : decide ((u : Int) < 0) = false := decide_eq_false hn
  have hx : eText G u = ⟨#[114, 101, 101, 100, 98, 101, 100, 58, 32, 101, 114, 114, 111, 114, 32]⟩ ++ ⟨(digs G u).toArray⟩ := if_neg hn
  rw [hx]
  have hl := digs_len G u (by omega)
  have HI := Lib.hid (itoa_any G u (by omega) w hT)
  clear hx hT
  generalize digs G u = D at *
  have hD : (⟨D.toArray⟩ : ByteArray).size ≤ 20 := by show D.toArray.size ≤ 20; simpa using hl
  generalize (⟨D.toArray⟩ : ByteArray) = E at *
  clear hl
  go_enter Try.func33, Try.ntmps33
  go_wp2_with (go_at_call 34; refine HI.out.mono ?_; rintro e1 w1 ⟨rfl, hb1⟩; have HB1 := Lib.hid hb1; clear hb1)
  go_ret
  exact ⟨rfl, HB1.out⟩
end Go.Proofs.Ytfadkkodamiohaa
