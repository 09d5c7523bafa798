/-
  The contracts of the pipe's functions at, Waits, first, and of slices.IndexFunc; no condition beyond those that each theorem states.
-/
import Derived.Test.YtfndppjicneliaaPipe1
namespace Go.Proofs.Ytfndppjicneliaa
open Go.RowKit Go.Rb
attribute [local irreducible] Go.wpQuiet

theorem cell_add (w : World) (g off i j : Nat) (v : Value) (h : w.cell? ⟨g, off + (i * 8 + j), none⟩ = some v) : w.cell? ⟨g, off + i * 8 + j, none⟩ = some v := by rw [Nat.add_assoc]; exact h
/-- An offer's cells. -/
theorem RepA.oat {w : World} {S : Nat → Prop} {p : Nat} {iv ov : Value} {s : PS} (h : RepA w S p iv ov s) {i : Nat} (hi : i < s.ofs.length) : ∃ g off cap, ov = .slice (some ⟨g, off, none⟩) s.ofs.length cap ∧ s.ofs.length ≤ cap ∧ g < w.heap.size ∧
    ∀ j, j < 8 → w.cell? ⟨g, off + i * 8 + j, none⟩ = (ofc s.ofs[i])[j]? := by
  obtain ⟨g, off, cap, e, hc, -, hg, hcell, -⟩ := h.oo.form (by omega)
  refine ⟨g, off, cap, e, hc, hg, fun j hj => ?_⟩
  rw [Nat.add_assoc, hcell (i * 8 + j) (by omega), ocs_get s.ofs i j hi hj]
theorem RepA.iat {w : World} {S : Nat → Prop} {p : Nat} {iv ov : Value} {s : PS} (h : RepA w S p iv ov s) {i : Nat} (hi : i < s.inn.length) : ∃ g off cap, iv = .slice (some ⟨g, off, none⟩) s.inn.length cap ∧ s.inn.length ≤ cap ∧ g < w.heap.size ∧
    ∀ j, j < 7 → w.cell? ⟨g, off + i * 7 + j, none⟩ = (It.cs s.inn[i])[j]? := by
  obtain ⟨g, off, cap, e, hc, -, hg, hcell, -⟩ := h.io.form (by omega)
  refine ⟨g, off, cap, e, hc, hg, fun j hj => ?_⟩
  rw [Nat.add_assoc, hcell (i * 7 + j) (by omega), ics_get s.inn i j hi hj]

theorem beq_dec (x y : Int) : (x == y) = decide (x = y) := rfl
set_option maxHeartbeats 1000000 in
theorem at1_any (o : Of) (b : Nat) (who : Int) (w : World) (hc : w.cell? ⟨b, 0, none⟩ = some (.int .i64 who)) (hb : b < w.heap.size) :
    Calls Try.prog 31 #[ofv o, .pointer (some ⟨b, 0, none⟩)] w fun e w' => e = .returned (.bool (decide (o.1 = who))) ∧ Below w.heap.size w w' := by
  obtain ⟨x, n, buf, rn, ra, rt, ha, hn, hcp, err⟩ := o
  unfold ofv
  go_enter Try.func31, Try.ntmps31
  go_wp2
  go_ret
  exact ⟨by rw [beq_dec]; rfl, below_al (Below.refl _ _) _⟩

/-- Where a sender's offer is. -/
def atI (l : List Of) (who : Int) : Int := match l.findIdx? (fun o => decide (o.1 = who)) with | some i => (i : Int) | none => -1
theorem atI_some {l : List Of} {who : Int} {i : Nat} (hi : i < l.length) (h : l[i].1 = who) (hno : ∀ k, (hk : k < l.length) → k < i → l[k].1 ≠ who) : atI l who = (i : Int) := by
  unfold atI
  have : l.findIdx? (fun o => decide (o.1 = who)) = some i := by
    rw [List.findIdx?_eq_some_iff_getElem]
    exact ⟨hi, by simpa using h, fun j hj => by simpa using hno j (by omega) hj⟩
  rw [this]
theorem atI_none {l : List Of} {who : Int} (hno : ∀ k, (hk : k < l.length) → l[k].1 ≠ who) : atI l who = -1 := by
  unfold atI
  have : l.findIdx? (fun o => decide (o.1 = who)) = none := by
    rw [List.findIdx?_eq_none_iff]
    intro o ho
    obtain ⟨k, hk, rfl⟩ := List.getElem_of_mem ho
    simpa using hno k hk
  rw [this]

set_option maxHeartbeats 2000000 in
theorem index_any {S : Nat → Prop} {p : Nat} {iv ov : Value} {s : PS} (b : Nat) (who : Int) (w : World) (h : RepA w S p iv ov s) (hn : s.ofs.length ≤ 1000000) (hc : w.cell? ⟨b, 0, none⟩ = some (.int .i64 who)) (hb : b < w.heap.size) :
    Calls Try.prog 30 #[ov, .func (.func 31) #[] #[.pointer (some ⟨b, 0, none⟩)]] w fun e w' => e = .returned (.int .i64 (atI s.ofs who)) ∧ Below w.heap.size w w' := by
  have HH := Lib.hid h
  obtain ⟨Al, cl, rfl, -, -⟩ := h.oo.len_
  have HC := Lib.hid hc
  clear h hc
  go_enter Try.func30, Try.ntmps30
  go_wp2_with fail
  go_loopw [8] (fun jv wr => ∃ i : Nat, i ≤ s.ofs.length ∧ jv = .int .i64 i ∧ Hid (∀ k, (hk : k < s.ofs.length) → k < i → s.ofs[k].1 ≠ who) ∧ Below w.heap.size w wr) (fun jv _ => s.ofs.length - (intOf jv).toNat)
  case atStart => exact ⟨0, by omega, rfl, fun k hk h => by omega, Below.refl _ _⟩
  case round =>
    obtain ⟨i, hi, rfl, hno, hbw⟩ := hrel
    have HB := Lib.hid hbw
    by_cases hlt : i < s.ofs.length
    · have i1 : (i : Int) < (s.ofs.length : Int) := by omega
      have hh := HH.out.below hbw
      obtain ⟨gl, ol, cl', e, -, -, kk⟩ := hh.oat hlt
      simp only [Value.slice.injEq] at e
      obtain ⟨rfl, -, rfl⟩ := e
      have HAT := Lib.hid (at1_any s.ofs[i] b who wr ((hbw.cell (p := ⟨b, 0, none⟩) hb).trans HC.out) (Nat.lt_of_lt_of_le hb hbw.size))
      have hq0 : Hid (s.ofs[i].1 = who → atI s.ofs who = (i : Int)) := fun e => atI_some hlt e hno.out
      have hq1 : Hid (s.ofs[i].1 ≠ who → ∀ k, (hk : k < s.ofs.length) → k < i + 1 → s.ofs[k].1 ≠ who) := fun e k hk h => by
        by_cases e2 : k = i
        · subst e2; exact e
        · exact hno.out k hk (by omega)
      clear hh hbw
      have k1 := kk 1 (by omega); have k2 := kk 2 (by omega); have k3 := kk 3 (by omega); have k4 := kk 4 (by omega); have k5 := kk 5 (by omega); have k6 := kk 6 (by omega); have k7 := kk 7 (by omega)
      have k0 := kk 0 (by omega)
      clear kk
      generalize s.ofs[i] = o at *
      obtain ⟨x, n, buf, rn, ra, rt, ha, hn', hcp, err⟩ := o
      simp only [ofc, It.cs, List.getElem?_cons_zero, List.getElem?_cons_succ, Nat.add_zero] at k0 k1 k2 k3 k4 k5 k6 k7
      unfold ofv at HAT
      by_cases ho : x = who
      · have HE := Lib.hid (hq0.out ho)
        rw [decide_eq_true ho] at HAT
        clear ho hq0 hq1
        go_wp2_with (go_at_call 31; refine HAT.out.mono ?_; rintro e1 w1 ⟨rfl, hb1⟩; have HB1 := Lib.hid (below_trans HB.out hb1); clear hb1)
        go_ret
        exact ⟨by rw [HE.out]; rfl, HB1.out⟩
      · have HE := Lib.hid (hq1.out ho)
        rw [decide_eq_false ho] at HAT
        clear ho hq0 hq1
        go_wp2_with (go_at_call 31; refine HAT.out.mono ?_; rintro e1 w1 ⟨rfl, hb1⟩; have HB1 := Lib.hid (below_trans HB.out hb1); clear hb1)
        go_roundw
        case rel => exact ⟨i + 1, by omega, by go_num, HE.out, HB1.out⟩
        case measure => simp [intOf]; omega
    · have HY : Hid (atI s.ofs who = -1) := atI_none fun k hk => hno.out k hk (by omega)
      have i1 : ¬ (i : Int) < (s.ofs.length : Int) := by omega
      clear hno hbw
      go_wp2_with fail
      go_ret
      exact ⟨by rw [HY.out]; rfl, HB.out⟩
set_option maxHeartbeats 1000000 in
theorem at_any {S : Nat → Prop} {p : Nat} {s : PS} (who : Int) (w : World) (hR : Rep w S p s) (hn : s.ofs.length ≤ 1000000) :
    Calls Try.prog 26 #[pp p, .int .i64 who] w fun e w' => e = .returned (.int .i64 (atI s.ofs who)) ∧ Below w.heap.size w w' := by
  obtain ⟨iv, ov, h⟩ := hR
  have hbl : Below w.heap.size w (w.alloc (.cells #[.int .i64 who] 3)) := below_al (Below.refl _ _) _
  have h1 := h.below hbl
  have c2 := h1.c2
  have HI := Lib.hid (index_any w.heap.size who _ h1 hn (by simp) (by simp))
  have HB := Lib.hid hbl
  clear h h1 hbl
  unfold pp
  go_enter Try.func26, Try.ntmps26
  go_wp2_with (go_at_call 30; refine HI.out.mono ?_; rintro e1 w1 ⟨rfl, hb1⟩; have HB1 := Lib.hid (below_trans HB.out hb1); clear hb1)
  go_ret
  exact ⟨rfl, HB1.out⟩
def waitsO (s : PS) (who : Int) : Bool := decide (0 ≤ atI s.ofs who)
set_option maxHeartbeats 1000000 in
theorem waits_any {S : Nat → Prop} {p : Nat} {s : PS} (who : Int) (w : World) (hR : Rep w S p s) (hn : s.ofs.length ≤ 1000000) :
    Calls Try.prog 14 #[pp p, .int .i64 who] w fun e w' => e = .returned (.bool (waitsO s who)) ∧ Below w.heap.size w w' := by
  have HA := Lib.hid (at_any who w hR hn)
  unfold waitsO
  generalize atI s.ofs who = z at *
  clear hR
  unfold pp at HA ⊢
  go_enter Try.func14, Try.ntmps14
  go_wp2_with (go_at_call 26; refine HA.out.mono ?_; rintro e1 w1 ⟨rfl, hb1⟩; have HB1 := Lib.hid hb1; clear hb1)
  go_ret
  exact ⟨rfl, HB1.out⟩
end Go.Proofs.Ytfndppjicneliaa
