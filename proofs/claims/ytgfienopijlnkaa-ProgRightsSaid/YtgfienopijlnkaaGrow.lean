/-
  append onto a slice of the call's own: what is too small to be grown into stays; append onto an empty slice; no condition beyond those that each theorem states.
-/
import Derived.Test.YtgfienopijlnkaaRegion
namespace Go.Rb
open Go.RowKit

section
variable {P : Program} (w : World)

theorem run_append_keep (t ty : TypeId) (e : TypeId) (i : TypeInfo) (z : Value) (sz bytes : Nat) (ht : P.underlying t = some (.slice e)) (hi : P.info? e = some i) (hz : i.zero = some z)
    (hsize : i.size = sz) (hby : i.bytes = bytes) (hzs : z.cells.size = sz) (hsz : 0 < sz)
    (v : Value) (n : Nat) (xs : List Value) (hown : Own w e sz v n xs)
    (a : Addr) (m c : Nat) (news : List Value) (hl : news.length = m * sz) (hnews : ∀ j u, news[j]? = some u → w.cell? (a.add j) = some u) (h1 : ∀ u ∈ news, u.oneCell' = true)
    (hm : 0 < m) (h63 : n + m ≤ maxLen) (hbytes : (n + m) * bytes ≤ 140737488355328) :
    ∃ g off cap w', (Builtin.append_ #[t, t] ty #[v, .slice (some a) m c]).run P w = .ok (.slice (some ⟨g, off, none⟩) (n + m) cap) w' ∧
      Own w' e sz (.slice (some ⟨g, off, none⟩) (n + m) cap) (n + m) (xs ++ news) ∧ w.grownBy w' v.ownBlock ∧ (v.ownBlock = some g ∨ g = w.heap.size) ∧
      (∀ k cs, Blk w k e cs → cs.size < (n + m) * sz → Blk w' k e cs) := by
  subst hsize
  subst hby
  have hsmall : n + m ≤ 9223372036854775807 := by simp only [maxLen] at h63; omega
  have hlen : (xs ++ news).length = (n + m) * i.size := by rw [List.length_append, hown.1, hl, Nat.add_mul]
  have grown : ∀ (old : Nat), old < n + m → ∀ (row : Option Nat),
      Own (w.drew.alloc (.cells (xs.toArray ++ news.toArray ++ Builtin.zeroCells z.cells (grownCap w (n + m) old e - (n + m))) e)) e i.size
        (.slice (some ⟨w.heap.size, 0, none⟩) (n + m) (grownCap w (n + m) old e)) (n + m) (xs ++ news) ∧
      w.grownBy (w.drew.alloc (.cells (xs.toArray ++ news.toArray ++ Builtin.zeroCells z.cells (grownCap w (n + m) old e - (n + m))) e)) row := by
    intro old ho row
    have hge := grownCap_ge w (n + m) old e
    have hcm : grownCap w (n + m) old e ≤ maxLen := grownCap_le_maxLen w (n + m) old e h63
    refine ⟨⟨hlen, .inr ⟨w.heap.size, 0, _, _, rfl, heap_alloc_new w.drew _, hge, hcm, ?_, ?_⟩⟩, ⟨rfl, rfl, rfl, by simp, fun k hk _ => Below.heap_alloc w.drew _ k hk⟩⟩
    · simp only [Array.size_append, List.size_toArray, size_zeroCells, hzs, hown.1, hl, ← Nat.add_mul]
      rw [show n + m + (grownCap w (n + m) old e - (n + m)) = grownCap w (n + m) old e by omega]
      omega
    · simp only [Array.toList_append, List.append_assoc, List.drop_zero]
      rw [← List.append_assoc, ← hlen]
      exact List.take_left
  rcases hown.2 with ⟨rfl, rfl⟩ | ⟨g, off, cap, cur, rfl, hg, hnc, hcm, hcs, htake⟩
  · have hx : xs = [] := List.eq_nil_of_length_eq_zero (by simpa using hown.1)
    subst hx
    have hr := run_append_nil (P := P) w t ty e i z ht hi hz a m c news hl hnews (by omega) (by omega) (by have hb := hbytes; simp only [Nat.zero_add] at hb; omega)
    have hgr := grown 0 (by omega) (Value.ownBlock (.slice none 0 0))
    simp only [Nat.zero_add, List.nil_append, Array.empty_append] at hgr ⊢
    exact ⟨_, _, _, _, hr, hgr.1, hgr.2, .inr rfl, fun k cs hk _ => Blk.alloc (w := w.drew) hk _⟩
  · by_cases hroom : n + m ≤ cap
    · have hle : (n + m) * i.size ≤ cap * i.size := Nat.mul_le_mul_right _ hroom
      have hsum : (n + m) * i.size = n * i.size + m * i.size := Nat.add_mul _ _ _
      have hfit : off + n * i.size + news.length ≤ cur.size := by rw [hl]; omega
      have hr := run_append_mid (P := P) w t ty e i ht hi g off n cap cur hg a m c news hl hnews h1 hroom hfit
      refine ⟨_, _, _, _, hr, ⟨hlen, .inr ⟨g, off, cap, _, rfl, setRow_heap w g cur _ e _ hg, hroom, hcm, ?_, ?_⟩⟩, ⟨rfl, rfl, rfl, by simp, fun k _ hk => setRow_other w g k _ (fun e => hk (by simp [Value.ownBlock, e]))⟩, .inl (by simp [Value.ownBlock]), ?_⟩
      · simp only [List.size_toArray, List.length_append, List.length_take, List.length_drop, Array.length_toList]
        omega
      · rw [List.drop_append_of_le_length (by simp; omega), List.drop_append_of_le_length (by simp; omega), List.drop_take, Nat.add_sub_cancel_left, htake, ← hlen]
        exact List.take_left
      · intro k cs hk hlt
        have hne : k ≠ g := by
          rintro rfl
          unfold Blk at hk
          rw [hk] at hg
          simp only [Option.some.injEq, Obj.cells.injEq] at hg
          obtain ⟨rfl, _, _⟩ := hg
          omega
        exact (setRow_other w g k _ hne).trans hk
    · have holds : ∀ j u, xs[j]? = some u → w.cell? ((⟨g, off, none⟩ : Addr).add j) = some u := by
        intro j u hu
        have hj : j < n * i.size := by have := (List.getElem?_eq_some_iff.1 hu).1; rw [hown.1] at this; exact this
        rw [Addr.add_lit, cell_of_row w g (off + j) cur e (0, 0) hg]
        rw [← htake, List.getElem?_take, if_pos hj, List.getElem?_drop] at hu
        simpa using hu
      have hr := run_append_grow (P := P) w t ty e i z ht hi hz ⟨g, off, none⟩ n cap xs hown.1 holds a m c news hl hnews (by omega) (by omega) (growslice_fits (by omega) hbytes)
      have hgr := grown cap (by omega) (Value.ownBlock (.slice (some ⟨g, off, none⟩) n cap))
      exact ⟨_, _, _, _, hr, hgr.1, hgr.2, .inr rfl, fun k cs hk _ => Blk.alloc (w := w.drew) hk _⟩
theorem wpList_append_keep {ops : Array Oper} {rest : List Oper} {o : Oper} {a : Act} {Q : Exit → Act → World → Prop} (hgd : o.guard = none) (s x : Operand) (t : TypeId)
    (ho : o.op = .call { callee := .builtin .append, args := #[s, x], argTypes := #[t, t] })
    (e : TypeId) (i : TypeInfo) (z : Value) (sz bytes : Nat) (ht : P.underlying t = some (.slice e)) (hi : P.info? e = some i) (hz : i.zero = some z)
    (hsize : i.size = sz) (hby : i.bytes = bytes) (hzs : z.cells.size = sz) (hsz : 0 < sz)
    (v : Value) (n : Nat) (xs : List Value) (hs : a.eval s = v) (hown : Own w e sz v n xs)
    (ad : Addr) (m c : Nat) (news : List Value) (hx : a.eval x = .slice (some ad) m c) (hl : news.length = m * sz) (hnews : ∀ j u, news[j]? = some u → w.cell? (ad.add j) = some u) (h1 : ∀ u ∈ news, u.oneCell' = true)
    (hm : 0 < m) (h63 : n + m ≤ maxLen) (hbytes : (n + m) * bytes ≤ 140737488355328)
    (h : ∀ g off cap w', Own w' e sz (.slice (some ⟨g, off, none⟩) (n + m) cap) (n + m) (xs ++ news) → w.grownBy w' v.ownBlock → (v.ownBlock = some g ∨ g = w.heap.size) → (∀ k cs, Blk w k e cs → cs.size < (n + m) * sz → Blk w' k e cs) → wpList P ops Q rest (a.put o.dst (.slice (some ⟨g, off, none⟩) (n + m) cap)) w') : wpList P ops Q (o :: rest) a w := by
  refine wpList_plain hgd fun K hK => ?_
  obtain ⟨g, off, cap, w', hr, h2, h3, h4, h5⟩ := run_append_keep (P := P) w t o.type e i z sz bytes ht hi hz hsize hby hzs hsz v n xs hown ad m c news hl hnews h1 hm h63 hbytes
  unfold Oper.wp execOp
  simp only [ho, resolve, invoke, builtin, Sem.run_bind, Sem.run_pure, Result.andThen_ok, List.map_toArray, List.map_cons, List.map_nil, hs, hx, hr]
  exact hK _ _ (h g off cap w' h2 h3 h4 h5)
/-- append onto an empty slice that is none of nil: all that was stays as it was. -/
theorem run_append_e (t ty : TypeId) (e : TypeId) (i : TypeInfo) (z : Value) (sz bytes : Nat) (ht : P.underlying t = some (.slice e)) (hi : P.info? e = some i) (hz : i.zero = some z)
    (hsize : i.size = sz) (hby : i.bytes = bytes) (hzs : z.cells.size = sz) (hsz : 0 < sz) (g : Nat) (hown : Blk w g e #[])
    (B : Nat) (A : Option Addr) (m c : Nat) (news : List Value) (hr : Rd w B sz A m news) (h1 : ∀ u ∈ news, u.oneCell' = true)
    (h63 : m ≤ maxLen) (hbytes : m * bytes ≤ 140737488355328) :
    ∃ g' o c' w', (Builtin.append_ #[t, t] ty #[.slice (some ⟨g, 0, none⟩) 0 0, .slice A m c]).run P w = .ok (.slice (some ⟨g', o, none⟩) m c') w' ∧ Own w' e sz (.slice (some ⟨g', o, none⟩) m c') m news ∧ Below w.heap.size w w' ∧ (g' = g ∨ g' = w.heap.size) ∧ (m = 0 → Blk w' g' e #[]) := by
  have hO : Own w e sz (.slice (some ⟨g, 0, none⟩) 0 0) 0 [] := ⟨by simp, .inr ⟨g, 0, 0, #[], rfl, hown, Nat.le_refl _, by simp [maxLen], by simp, by simp⟩⟩
  rcases Nat.eq_zero_or_pos m with h0 | h0
  · subst h0
    obtain rfl : news = [] := List.eq_nil_of_length_eq_zero (by simpa using hr.1)
    exact ⟨g, 0, 0, w, run_append_zero w t ty e i sz ht hi _ 0 [] hO A c, hO, Below.refl _ _, .inl rfl, fun _ => hown⟩
  · obtain ⟨b, off, rfl, _, hc⟩ := hr.2 h0
    have hms : 0 < m * sz := Nat.mul_pos h0 hsz
    obtain ⟨g', o, cap, w', hrun, h2, h3, h4, h5⟩ := run_append_keep (P := P) w t ty e i z sz bytes ht hi hz hsize hby hzs hsz _ 0 [] hO ⟨b, off, none⟩ m c news hr.1
      (fun j u hu => by
        have hj : j < m * sz := by have := (List.getElem?_eq_some_iff.1 hu).1; rw [hr.1] at this; exact this
        rw [Addr.add_lit, hc j hj, hu]) h1 h0 (by omega) (by simpa using hbytes)
    simp only [Nat.zero_add, List.nil_append] at hrun h2 h5
    refine ⟨g', o, cap, w', hrun, h2, ⟨h3.os, h3.tape, h3.output, h3.size, fun k hk => ?_⟩, ?_, fun h => by omega⟩
    · by_cases hkg : k = g
      · subst hkg
        exact (h5 k #[] hown (by simpa using hms)).trans hown.symm
      · exact h3.block k hk (by simpa [Value.ownBlock] using hkg)
    · rcases h4 with h4 | h4
      · exact .inl (by simpa [Value.ownBlock] using h4.symm)
      · exact .inr h4
end
end Go.Rb
