/-
  The contract of slices.DeleteFunc at hits; no condition beyond those that each theorem states.
-/
import Derived.Test.YtbgmdjceecbbhaaDoorMode1
namespace Go.Proofs.YtbgmdjceecbbhaaDoor
open Go.RowKit Go.Rb
attribute [local irreducible] Go.wpQuiet

/-- The function that tells which hits are bad. -/
def fv (g : Nat) : Value := .func (.func 19) #[] #[.pointer (some ⟨g, 0, none⟩)]
theorem own_cell2 {w : World} {n c : Nat} {A : Option Addr} {l : List Ht} (h : Own w 47 2 (.slice A n c) n (hts l)) (hl : l.length = n) (j : Nat) (hj : j < n) :
    ∃ pb po, A = some ⟨pb, po, none⟩ ∧ pb < w.heap.size ∧ w.cell? ⟨pb, po + j * 2, none⟩ = some (.int .i64 (l[j]'(by omega)).f) ∧ w.cell? ⟨pb, po + j * 2 + 1, none⟩ = some (.int .i64 (l[j]'(by omega)).t) := by
  obtain ⟨pb, po, rfl, hlt, hcell⟩ := h.rd.2 (by omega)
  refine ⟨pb, po, rfl, hlt, ?_, ?_⟩
  · have := hcell (j * 2 + 0) (by omega)
    rw [hts_get l j 0 (by omega) (by decide)] at this
    exact this
  · have := hcell (j * 2 + 1) (by omega)
    rw [hts_get l j 1 (by omega) (by decide), ← Nat.add_assoc] at this
    exact this
/-- The place of the first bad one. -/
def firstBad (m : Nat) (l : List Ht) : Nat := (l.takeWhile (good m)).length
theorem firstBad_le (m : Nat) (l : List Ht) : firstBad m l ≤ l.length := (List.takeWhile_sublist _).length_le
theorem good_before (m : Nat) : ∀ (l : List Ht) (i : Nat) (h : i < firstBad m l), good m (l[i]'(Nat.lt_of_lt_of_le h (firstBad_le m l))) = true
  | [], i, h => by simp [firstBad] at h
  | x :: t, i, h => by
    by_cases hx : good m x = true
    · cases i with
      | zero => exact hx
      | succ i =>
        have h2 : i < firstBad m t := by
          unfold firstBad at h ⊢
          rw [List.takeWhile_cons, if_pos hx, List.length_cons] at h
          omega
        exact good_before m t i h2
    · unfold firstBad at h
      rw [List.takeWhile_cons, if_neg hx] at h
      simp at h
theorem bad_at (m : Nat) : ∀ (l : List Ht) (h : firstBad m l < l.length), good m (l[firstBad m l]'h) = false
  | [], h => by simp at h
  | x :: t, h => by
    by_cases hx : good m x = true
    · have e : firstBad m (x :: t) = firstBad m t + 1 := by unfold firstBad; rw [List.takeWhile_cons, if_pos hx]; rfl
      have := bad_at m t (by rw [e] at h; simpa using h)
      simp only [e, List.getElem_cons_succ]
      exact this
    · have e : firstBad m (x :: t) = 0 := by unfold firstBad; rw [List.takeWhile_cons, if_neg hx]; rfl
      simp only [e, List.getElem_cons_zero]
      simpa using hx
theorem filter_first (m : Nat) (l : List Ht) : (l.take (firstBad m l)).filter (good m) = l.take (firstBad m l) := by
  rw [List.filter_eq_self]
  intro x hx
  obtain ⟨i, hi, rfl⟩ := List.getElem_of_mem hx
  rw [List.getElem_take]
  exact good_before m l i (by simp at hi; omega)
theorem filter_all (m : Nat) (l : List Ht) (h : firstBad m l = l.length) : l.filter (good m) = l := by
  have := filter_first m l
  rw [h, List.take_length] at this
  exact this

set_option maxRecDepth 20000 in
set_option maxHeartbeats 4000000 in
theorem index_any (x : List UInt8) (hs : List Ht) (A : Option Addr) (n c g : Nat) (w : World) (hl : hs.length = n) (hv : Own w 47 2 (.slice A n c) n (hts hs)) (hg : w.cell? ⟨g, 2, none⟩ = some (.string (mk x))) (hn : n ≤ 1000) :
    Calls Tryd.prog 25 #[.slice A n c, fv g] w fun e w' => e = .returned (.int .i64 (if firstBad x.length hs = n then -1 else (firstBad x.length hs : Int))) ∧ Below w.heap.size w w' := by
  have HV := Lib.hid hv
  have HG := Lib.hid hg
  have HL := Lib.hid hl
  have hgl : g < w.heap.size := World.block_lt_of_cell? w _ hg
  have hfb := firstBad_le x.length hs
  have HGB : Hid (∀ (i : Nat) (hi : i < hs.length), i < firstBad x.length hs → good x.length (hs[i]'hi) = true) := fun i hi h => good_before x.length hs i h
  have HBA : Hid (∀ (i : Nat) (hi : i < hs.length), i = firstBad x.length hs → good x.length (hs[i]'hi) = false) := fun i hi h => by subst h; exact bad_at x.length hs hi
  obtain ⟨fb, hfb'⟩ : ∃ k, firstBad x.length hs = k := ⟨_, rfl⟩
  rw [hfb'] at HGB HBA
  rw [hfb'] at hfb ⊢
  rw [hl] at hfb
  clear hv hg hl hfb'
  obtain ⟨X, hX⟩ : ∃ X : Int, (if fb = n then -1 else (fb : Int)) = X := ⟨_, rfl⟩
  rw [hX]
  have HX := Lib.hid hX
  clear hX
  unfold fv
  go_enter Tryd.func25, Tryd.ntmps25
  go_wp2_with fail
  go_loopw [8] (fun iv wr => ∃ i : Nat, i ≤ fb ∧ iv = .int .i64 i ∧ Hid (Below w.heap.size w wr)) (fun iv _ => n - (intOf iv).toNat)
  case atStart => exact ⟨0, by omega, rfl, Below.refl _ _⟩
  case round =>
    obtain ⟨i, hi, rfl, hbw⟩ := hrel
    by_cases hlt : i < n
    · obtain ⟨pb, po, rfl, hpl, x0, x1⟩ := own_cell2 (HV.out.below hbw.out (fun k hk => HV.out.lt hk)) HL.out i hlt
      have hB := bad_any (hs[i]'(by rw [HL.out]; exact hlt)) g 0 0 x wr ((hbw.out.cell (p := ⟨g, 2, none⟩) hgl).trans HG.out)
      have i1 : (i : Int) < (n : Int) := by omega
      have i2 : (0 : Int) ≤ (i : Int) := by omega
      by_cases hif : i < fb
      · have hgd := HGB.out i (by rw [HL.out]; exact hlt) hif
        rw [hgd] at hB
        have HB := Lib.hid hB
        clear hB hgd
        generalize hs[i]'(by rw [HL.out]; exact hlt) = h at *
        go_wp2_with (go_at_call 19; refine HB.out.mono ?_; rintro e1 w1 ⟨rfl, hb1⟩; have HB1 := Lib.hid (below_trans hbw.out hb1); clear hb1)
        go_roundw
        case rel => exact ⟨i + 1, by omega, by go_num, HB1.out⟩
        case measure => simp [intOf]; omega
      · obtain rfl : i = fb := by omega
        have hgd := HBA.out i (by rw [HL.out]; exact hlt) rfl
        rw [hgd] at hB
        have HB := Lib.hid hB
        have hne : ¬ i = n := by omega
        clear hB hgd
        generalize hs[i]'(by rw [HL.out]; exact hlt) = h at *
        go_wp2_with (go_at_call 19; refine HB.out.mono ?_; rintro e1 w1 ⟨rfl, hb1⟩; have HB1 := Lib.hid (below_trans hbw.out hb1); clear hb1)
        go_ret
        rw [← HX.out, if_neg hne]
        exact ⟨rfl, HB1.out⟩
    · have hii : i = n := by omega
      have hfn : fb = n := by omega
      have i1 : ¬ (i : Int) < (n : Int) := by omega
      have HFN := Lib.hid hfn
      clear hii hfn
      go_wp2_with fail
      go_ret
      rw [← HX.out, if_pos HFN.out]
      exact ⟨rfl, hbw.out⟩
end Go.Proofs.YtbgmdjceecbbhaaDoor
