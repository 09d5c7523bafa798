/-
  The contracts of the pipe's function Withdraw and of slices.Delete; no condition beyond those that each theorem states.
-/
import Derived.Test.YtfndppjicneliaaPipe5
import Derived.Lib.SliceRun
namespace Go.Proofs.Ytfndppjicneliaa
open Go.RowKit Go.Rb
attribute [local irreducible] Go.wpQuiet

theorem take_any {S : Nat → Prop} {p : Nat} {s : PS} (w : World) (hR : Rep w S p s) (h1 : s.inn.length ≤ 1000000) :
    Calls Try.prog 10 #[pp p] w fun e w' => e = .returned (.tuple #[(takeX s).v, .int .i64 (takeE s)]) ∧ Went w S p (takeS s) w' := by
  obtain ⟨iv, ov, h⟩ := hR
  unfold takeX takeE takeS
  cases hi : s.inn with
  | nil =>
    cases ho : s.ofs with
    | nil => exact take_none w h hi ho
    | cons o u =>
      refine (take_of o u w h hi ho).mono ?_
      intro e w' he
      simp only at he ⊢
      rw [hi] at he
      exact he
  | cons x t =>
    cases ho : s.ofs with
    | nil =>
      refine (take_in x t w h hi ho).mono ?_
      intro e w' he
      simp only at he ⊢
      rw [ho] at he
      exact he
    | cons o u => exact take_both x t o u w h hi ho (by rw [hi] at h1; simp at h1; omega)

theorem blk_setCells {g : Nat} {t : TypeId} : ∀ (vs : List Value) (o : Nat) (w : World) (cs : Array Value), Blk w g t cs → ∃ cs', Blk (w.setCells g o vs) g t cs' ∧ cs'.size = cs.size ∧ ∀ j, cs'[j]? = if o ≤ j ∧ j < o + vs.length ∧ j < cs.size then vs[j - o]? else cs[j]?
  | [], o, w, cs, h => ⟨cs, h, rfl, fun j => by rw [if_neg (by simp; omega)]⟩
  | v :: vs, o, w, cs, h => by
    obtain ⟨cs', hb, hs, hc⟩ := blk_setCells vs (o + 1) _ _ (h.set_ o v)
    refine ⟨cs', hb, by simpa using hs, fun j => ?_⟩
    rw [hc j]
    simp only [Array.size_setIfInBounds, List.length_cons]
    by_cases h1 : o + 1 ≤ j ∧ j < o + 1 + vs.length ∧ j < cs.size
    · rw [if_pos h1, if_pos (by omega), show j - o = (j - (o + 1)) + 1 from by omega, List.getElem?_cons_succ]
    · rw [if_neg h1]
      by_cases h2 : j = o
      · subst h2
        by_cases h3 : j < cs.size
        · rw [if_pos (by omega), Array.getElem?_setIfInBounds_self_of_lt h3]; simp
        · rw [if_neg (by omega), Array.getElem?_eq_none (by simp; omega), Array.getElem?_eq_none (by omega)]
      · rw [Array.getElem?_setIfInBounds_ne (by omega), if_neg (by omega)]
theorem only_setCells {g : Nat} : ∀ (vs : List Value) (o : Nat) (w w0 : World), Only (fun k => k = g) w0 w → Only (fun k => k = g) w0 (w.setCells g o vs)
  | [], _, _, _, h => h
  | v :: vs, o, w, w0, h => only_setCells vs (o + 1) _ w0 (h.setCell (p := ⟨g, o, none⟩) (fun _ => rfl) v)
theorem own_of_blk {w : World} {g off cap n sz : Nat} {e : TypeId} {cs : Array Value} {xs : List Value} (h : Blk w g e cs) (hnc : n ≤ cap) (hcm : cap ≤ maxLen) (hsz : off + cap * sz ≤ cs.size) (hl : xs.length = n * sz) (hx : ∀ j, j < n * sz → cs[off + j]? = xs[j]?) :
    Own w e sz (.slice (some ⟨g, off, none⟩) n cap) n xs := by
  refine ⟨hl, .inr ⟨g, off, cap, cs, rfl, h, hnc, hcm, hsz, ?_⟩⟩
  have hle : n * sz ≤ cap * sz := Nat.mul_le_mul_right _ hnc
  apply List.ext_getElem?
  intro j
  rw [List.getElem?_take]
  by_cases hj : j < n * sz
  · rw [if_pos hj, List.getElem?_drop, Array.getElem?_toList, hx j hj]
  · rw [if_neg hj, List.getElem?_eq_none (by omega)]
theorem zeroO : ∀ w, (zeroValue 64).run Try.prog w = .ok (.agg #[.int .i64 0, .int .i64 0, .int .i64 0, .int .i64 0, .int .i64 0, .string ⟨#[]⟩, .slice none 0 0, .int .i64 0]) w := by
  intro w
  kernel_rfl
theorem run_clear_offer (w : World) (ty : TypeId) (b o c : Nat) (hc : ∀ j, j < 8 → (w.cell? ⟨b, o + j, none⟩).isSome = true) (hf : ∀ j, j < 8 → w.frozen? ⟨b, o + j, none⟩ = false) :
    (Builtin.clear_ #[60] ty #[.slice (some ⟨b, o, none⟩) 1 c]).run Try.prog w = .ok (.tuple #[]) (w.setCells b o [.int .i64 0, .int .i64 0, .int .i64 0, .int .i64 0, .int .i64 0, .string ⟨#[]⟩, .slice none 0 0, .int .i64 0]) := by
  have hzc : (Builtin.zeroCells (Value.agg #[.int .i64 0, .int .i64 0, .int .i64 0, .int .i64 0, .int .i64 0, .string ⟨#[]⟩, .slice none 0 0, .int .i64 0]).cells 1).toList = [.int .i64 0, .int .i64 0, .int .i64 0, .int .i64 0, .int .i64 0, .string ⟨#[]⟩, .slice none 0 0, .int .i64 0] := by kernel_rfl
  have hst := run_storeCells_cells (P := Try.prog) b o [.int .i64 0, .int .i64 0, .int .i64 0, .int .i64 0, .int .i64 0, .string ⟨#[]⟩, .slice none 0 0, .int .i64 0] 0 w (by simpa using hc) (by simpa using hf) (by simp [Value.oneCell'])
  simp only [Nat.add_zero] at hst
  simp [Builtin.clear_, run_underlying Try.underlying60, zeroO, hzc, hst]

theorem ocs_take : ∀ (l : List Of) (i : Nat), ocs (l.take i) = (ocs l).take (i * 8)
  | [], i => by simp [ocs]
  | x :: l, 0 => by simp [ocs]
  | x :: l, i + 1 => by
    have := ocs_take l i
    show ofc x ++ ocs (l.take i) = (ofc x ++ ocs l).take ((i + 1) * 8)
    rw [List.take_append, ofc_len, List.take_of_length_le (show (ofc x).length ≤ (i + 1) * 8 by rw [ofc_len]; omega), show (i + 1) * 8 - 8 = i * 8 from by omega, this]
theorem ocs_drop : ∀ (l : List Of) (i : Nat), ocs (l.drop i) = (ocs l).drop (i * 8)
  | [], i => by simp [ocs]
  | x :: l, 0 => by simp
  | x :: l, i + 1 => by
    have := ocs_drop l i
    show ocs (l.drop i) = (ofc x ++ ocs l).drop ((i + 1) * 8)
    rw [List.drop_append, ofc_len, List.drop_of_length_le (show (ofc x).length ≤ (i + 1) * 8 by rw [ofc_len]; omega), show (i + 1) * 8 - 8 = i * 8 from by omega, this, List.nil_append]
/-- What lies in the block when one offer is cut out. -/
theorem cut_cells {w : World} {g off cap i n : Nat} {l : List Of} (h : Own w 64 8 (.slice (some ⟨g, off, none⟩) n cap) n (ocs l)) (hl : l.length = n) (hi : i < n) (zs : List Value) (hz : zs.length = 8) :
    Own ((w.setCells g (off + i * 8) (ocs (l.drop (i + 1)))).setCells g (off + (n - 1) * 8) zs) 64 8 (.slice (some ⟨g, off, none⟩) (n - 1) cap) (n - 1) (ocs (l.eraseIdx i)) := by
  rcases h.2 with ⟨h0, _⟩ | ⟨g', off', cap', cur, hv, hg, hnc, hcm, hsz, hx⟩
  · simp at h0
  · simp only [Value.slice.injEq, Option.some.injEq, Addr.mk.injEq, true_and, and_true] at hv
    obtain ⟨⟨rfl, rfl⟩, rfl⟩ := hv
    have hon : (ocs l).length = n * 8 := h.1
    have hcur : ∀ j, j < n * 8 → cur[off + j]? = (ocs l)[j]? := fun j hj => by
      rw [← hx, List.getElem?_take, if_pos hj, List.getElem?_drop, Array.getElem?_toList]
    obtain ⟨c1, hb1, hs1, hc1⟩ := blk_setCells (ocs (l.drop (i + 1))) (off + i * 8) w cur hg
    obtain ⟨c2, hb2, hs2, hc2⟩ := blk_setCells zs (off + (n - 1) * 8) _ c1 hb1
    have hdl : (ocs (l.drop (i + 1))).length = (n - 1 - i) * 8 := by rw [ocs_len, List.length_drop, hl]; omega
    refine own_of_blk hb2 (by omega) hcm (by omega) (by rw [ocs_len, List.length_eraseIdx, if_pos (by omega), hl]) fun j hj => ?_
    rw [hc2, if_neg (by omega), hc1]
    rw [List.eraseIdx_eq_take_drop_succ, ocs_append, ocs_take]
    by_cases hji : j < i * 8
    · rw [if_neg (by omega), hcur j (by omega), List.getElem?_append_left (by rw [List.length_take, hon]; omega), List.getElem?_take, if_pos hji]
    · rw [if_pos (by omega), List.getElem?_append_right (by rw [List.length_take, hon]; omega), List.length_take, hon, show off + j - (off + i * 8) = j - min (i * 8) (n * 8) from by omega]
set_option maxHeartbeats 4000000 in
theorem delete_any (w : World) (g off cap i m : Nat) (l : List Of) (h : Own w 64 8 (.slice (some ⟨g, off, none⟩) (m + 1) cap) (m + 1) (ocs l)) (hl : l.length = m + 1) (hi : i < m + 1) (hn : m + 1 ≤ 1000000) :
    Calls Try.prog 27 #[.slice (some ⟨g, off, none⟩) (m + 1) cap, .int .i64 (i : Int), .int .i64 ((i : Int) + 1)] w fun e w' => e = .returned (.slice (some ⟨g, off, none⟩) m cap) ∧ Only (fun k => k = g) w w' ∧ Own w' 64 8 (.slice (some ⟨g, off, none⟩) m cap) m (ocs (l.eraseIdx i)) := by
  obtain ⟨j0, hj0, hjz0, hjz1, hjz2⟩ := info_parts infoO
  obtain ⟨g', off', cap', e, hnc, hcm, hg, hcell, hfz⟩ := h.form (by omega)
  simp only [Value.slice.injEq, Option.some.injEq, Addr.mk.injEq, true_and, and_true] at e
  obtain ⟨⟨rfl, rfl⟩, rfl⟩ := e
  have HOWN := Lib.hid h
  have i1 : ((i : Int) == (i : Int) + 1) = false := by rw [beq_eq_false_iff_ne]; omega
  have hnews : ∀ t u, (ocs (l.drop (i + 1)))[t]? = some u → (cap = i + 1 → False) ∧ w.cell? ⟨g, off + (i + 1) * 8 + t, none⟩ = some u := fun t u hu => by
    have ht := (List.getElem?_eq_some_iff.1 hu).1
    rw [ocs_len, List.length_drop, hl] at ht
    refine ⟨fun hh => by omega, ?_⟩
    rw [Nat.add_assoc, hcell ((i + 1) * 8 + t) (by omega), ← hu, ocs_drop, List.getElem?_drop]
  obtain ⟨A, hA, hsrc⟩ : ∃ A : Addr, (if cap = i + 1 then some (⟨g, off, none⟩ : Addr) else some ⟨g, off + (i + 1) * 8, none⟩) = some A ∧ Hid (∀ t u, (ocs (l.drop (i + 1)))[t]? = some u → w.drew.cell? (A.add t) = some u) := by
    by_cases hh : cap = i + 1
    · exact ⟨⟨g, off, none⟩, by simp [hh], fun t u hu => absurd hh (hnews t u hu).1⟩
    · exact ⟨⟨g, off + (i + 1) * 8, none⟩, by simp [hh], fun t u hu => by rw [Addr.add_lit]; exact (hnews t u hu).2⟩
  have s1 : Hid ((ocs (l.drop (i + 1))).length = (m - i) * 8) := (by rw [ocs_len, List.length_drop, hl, show m + 1 - (i + 1) = m - i from by omega] : (ocs (l.drop (i + 1))).length = (m - i) * 8)
  have s2 : Hid (∀ u ∈ ocs (l.drop (i + 1)), u.oneCell' = true) := fun u hu => by
    obtain ⟨o, ho, hu⟩ := List.mem_flatMap.1 hu
    simp [ofc, It.cs] at hu
    rcases hu with rfl | rfl | rfl | rfl | rfl | rfl | rfl | rfl <;> rfl
  have s3 : Hid (∀ t, t < (ocs (l.drop (i + 1))).length → (w.drew.cell? ⟨g, off + i * 8 + t, none⟩).isSome = true ∧ w.drew.frozen? ⟨g, off + i * 8 + t, none⟩ = false) := fun t ht => by
    rw [s1.out] at ht
    refine ⟨?_, hfz _⟩
    show (w.cell? _).isSome = true
    rw [Nat.add_assoc, hcell (i * 8 + t) (by omega), List.getElem?_eq_getElem (by rw [ocs_len, hl]; omega)]
    rfl
  obtain ⟨W1, hW1⟩ : ∃ W1, W1 = w.drew.setCells g (off + i * 8) (ocs (l.drop (i + 1))) := ⟨_, rfl⟩
  have HW := Lib.hid hW1
  have hlen1 : i + (m - i) = m := by omega
  have i2 : i ≤ cap := by omega
  have i3 : (i : Int) ≤ (cap : Int) := by omega
  have i4 : i + 1 ≤ m + 1 := by omega
  have i5 : (0 : Int) ≤ (i : Int) + 1 := by omega
  have i6 : (i : Int) + 1 ≤ (m : Int) + 1 := by omega
  have hB1 : ∃ cs, Blk W1 g 64 cs ∧ off + cap * 8 ≤ cs.size := by
    rcases h.2 with ⟨h0, _⟩ | ⟨g', off', cap', cur, hv, hgg, -, -, hsz, -⟩
    · simp at h0
    · simp only [Value.slice.injEq, Option.some.injEq, Addr.mk.injEq, true_and, and_true] at hv
      obtain ⟨⟨rfl, rfl⟩, rfl⟩ := hv
      obtain ⟨c1, hb1, hs1, -⟩ := blk_setCells (ocs (l.drop (i + 1))) (off + i * 8) w.drew cur hgg
      exact ⟨c1, by rw [hW1]; exact hb1, by omega⟩
  obtain ⟨cs1, hB1, hS1⟩ := hB1
  have hcl : ∀ ty, (Builtin.clear_ #[60] ty #[.slice (some ⟨g, off + m * 8, none⟩) 1 (cap - m)]).run Try.prog W1 = .ok (.tuple #[]) (W1.setCells g (off + m * 8) [.int .i64 0, .int .i64 0, .int .i64 0, .int .i64 0, .int .i64 0, .string ⟨#[]⟩, .slice none 0 0, .int .i64 0]) := fun ty =>
    run_clear_offer W1 ty g (off + m * 8) (cap - m) (fun j hj => by rw [hB1.cell, Array.getElem?_eq_getElem (by omega)]; rfl) (fun j hj => hB1.frozen _)
  have hO1 : Hid (Only (fun k => k = g) w ((w.drew.setCells g (off + i * 8) (ocs (l.drop (i + 1)))).setCells g (off + m * 8) [.int .i64 0, .int .i64 0, .int .i64 0, .int .i64 0, .int .i64 0, .string ⟨#[]⟩, .slice none 0 0, .int .i64 0])) :=
    only_setCells _ _ _ _ (only_setCells _ _ _ _ (Only.of_below (B := w.heap.size) (below_drewN (Below.refl _ _) 1) |>.mono fun k hk hh => by omega))
  have hOW : Hid (Own ((w.drew.setCells g (off + i * 8) (ocs (l.drop (i + 1)))).setCells g (off + m * 8) [.int .i64 0, .int .i64 0, .int .i64 0, .int .i64 0, .int .i64 0, .string ⟨#[]⟩, .slice none 0 0, .int .i64 0]) 64 8 (.slice (some ⟨g, off, none⟩) m cap) m (ocs (l.eraseIdx i))) :=
    cut_cells (w := w.drew) (h.drew) hl hi _ rfl
  have i7 : ¬ cap = m := by omega
  have i8 : (0 : Int) ≤ (m : Int) := by omega
  have i9 : (m : Int) ≤ (m : Int) + 1 := by omega
  have i10 : (m : Int) + 1 ≤ (cap : Int) := by omega
  have i11 : m + 1 - m = 1 := by omega
  clear hnews hcell h hW1 hB1 hS1
  go_enter Try.func27, Try.ntmps27
  go_wp2_with fail
  go_region_law (refine step_append_room rfl (.tmp 22) (.tmp 25) 60 rfl 64 j0 8 Try.underlying60 hj0 hjz1 g off i cap (by simp [Act.eval, Act.put]) A (m - i) (cap - (i + 1)) (ocs (l.drop (i + 1))) (by simp [Act.eval, Act.put]) s1.out hsrc.out s2.out (by omega) s3.out ?_; rw [← HW.out])
  go_wp2_with fail
  go_ret
  refine ⟨by simp, ?_, ?_⟩
  · rw [HW.out]; exact hO1.out
  · rw [HW.out]; exact hOW.out
end Go.Proofs.Ytfndppjicneliaa
