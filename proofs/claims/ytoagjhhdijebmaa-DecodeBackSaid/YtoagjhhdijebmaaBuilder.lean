/-
  strings.Builder: the contracts of copyCheck, Write and String at a builder of the call's own; no condition beyond those that each theorem states.
-/
import Derived.Test.YtoagjhhdijebmaaBase
import Derived.Lib.Builder
import Derived.Lib.UnsafeStr
import Derived.Laws.Externs
import Derived.RegionTactic
namespace Go.Proofs.Ytoagjhhdijebmaa
open Go.RowKit Go.Rb

theorem bInfo : (Try.prog.info? 5).map (fun i => (i.zero, i.size, i.bytes)) = some (some (.int .u8 0), 1, 1) := by kernel_rfl
theorem bSize : (Try.prog.info? 53).map (·.size) = some 2 := by kernel_rfl
theorem bLies : liesAt Try.prog Try.prog.depth 53 (2 / Try.prog.cellsOf 53) 0 53 1 = true := by kernel_rfl
theorem bCells : Try.prog.cellsOf 5 = 1 := by kernel_rfl
abbrev IsB (B b : Nat) (bs : List UInt8) (w : World) : Prop := Lib.IsBuilder 53 5 B b (Lib.byteCells bs) w

set_option maxHeartbeats 1000000 in
set_option maxRecDepth 100000 in
theorem cc_used (b : Nat) (w : World) (h0 : w.cell? ⟨b, 0, none⟩ = some (.pointer (some ⟨b, 0, none⟩))) :
    Calls Try.prog 39 #[.pointer (some ⟨b, 0, none⟩)] w fun e w' => e = .returned (.tuple #[]) ∧ w' = w := by
  obtain ⟨j, hj, _⟩ := Option.map_eq_some_iff.1 bSize
  go_enter Try.func39, Try.ntmps39
  go_wp2
  rw [Lib.run_neq_ptr_same w _ Try.underlying51 hj]
  go_wp2
  go_end0
  exact ⟨rfl, rfl⟩
set_option maxHeartbeats 1000000 in
set_option maxRecDepth 100000 in
theorem cc_fresh (b : Nat) (w : World) (h0 : w.cell? ⟨b, 0, none⟩ = some (.pointer none)) (hsh : w.shape? b = some (53, 2)) (hfz : w.frozen? ⟨b, 0, none⟩ = false) :
    Calls Try.prog 39 #[.pointer (some ⟨b, 0, none⟩)] w fun e w' => e = .returned (.tuple #[]) ∧ w' = w.setCell ⟨b, 0, none⟩ (.pointer (some ⟨b, 0, none⟩)) := by
  obtain ⟨j, hj, hjs⟩ := Option.map_eq_some_iff.1 bSize
  go_enter Try.func39, Try.ntmps39
  go_wp2
  rw [Lib.run_to_unsafe w ⟨b, 0, none⟩ Try.underlying51 Try.underlying75 hj (by rw [hjs]; decide) hsh (Nat.zero_lt_succ 1)]
  simp only [Result.andThen]
  rw [Oper.upon_value]
  go_wp2
  rw [run_callFunc_extern Try.func49 (by kernel_rfl) (by kernel_rfl) (by kernel_rfl) (e := Extern.AbiNoEscape.same) (by kernel_rfl)]
  rw [Lib.run_noEscape]
  simp only [Result.andThen]
  rw [Oper.upon_value]
  go_wp2
  rw [Lib.run_from_unsafe w ⟨b, 0, none⟩ Try.underlying75 Try.underlying51 hj hsh bLies]
  simp only [Result.andThen]
  rw [Oper.upon_value]
  go_wp2
  go_end0
  exact ⟨rfl, rfl⟩
theorem cc_any (B b : Nat) (bs : List Value) (w : World) (h : Lib.IsBuilder 53 5 B b bs w) :
    Calls Try.prog 39 #[.pointer (some ⟨b, 0, none⟩)] w fun e w' => e = .returned (.tuple #[]) ∧ Lib.BuilderAt 53 5 B b (.pointer (some ⟨b, 0, none⟩)) bs w' ∧ (w' = w ∨ w' = w.setCell ⟨b, 0, none⟩ (.pointer (some ⟨b, 0, none⟩))) := by
  rcases h with h | h
  · refine (cc_fresh b w h.cell0 h.shape h.frozen0).mono ?_
    rintro e w' ⟨rfl, rfl⟩
    exact ⟨rfl, h.used _, .inr rfl⟩
  · refine (cc_used b w h.cell0).mono ?_
    rintro e w' ⟨rfl, rfl⟩
    exact ⟨rfl, h, .inl rfl⟩
set_option maxHeartbeats 2000000 in
set_option maxRecDepth 100000 in
/-- Write of some octets, which lie in another block. -/
theorem bwrite_any (B b : Nat) (bs news : List UInt8) (v : Value) (w : World) (h : IsB B b bs w) (hv : Own w 5 1 v news.length (Lib.byteCells news)) (hne : 0 < news.length) (hnb : v.ownBlock ≠ some b)
    (hlen : bs.length + news.length ≤ 1000000) (hBw : B ≤ w.heap.size) :
    Calls Try.prog 29 #[.pointer (some ⟨b, 0, none⟩), v] w fun e w' => e = .returned (.tuple #[.int .i64 news.length, .nilIface]) ∧ IsB B b (bs ++ news) w' ∧ Below B w w' := by
  obtain ⟨i0, hi, hz0, hz1, hz2⟩ := info_parts bInfo
  obtain ⟨g0, o0, c0', rfl, -, -, -, -, -⟩ := hv.form hne
  have hg0 : g0 ≠ b := by rintro rfl; exact hnb rfl
  obtain ⟨m, hm⟩ : ∃ m, news.length = m := ⟨_, rfl⟩
  have HLEN := Lib.hid (And.intro hlen hne)
  have HM := Lib.hid hm
  have hnl : (Lib.byteCells news).length = m := by rw [Lib.byteCells_length, hm]
  have hone : ∀ u ∈ Lib.byteCells news, u.oneCell' = true := by intro u hu; simp only [Lib.byteCells, List.mem_map] at hu; obtain ⟨x, -, rfl⟩ := hu; rfl
  rw [hm] at hv ⊢
  have HV := Lib.hid hv
  have HC := Lib.hid (cc_any B b _ w h)
  have HAP := Lib.hid (Lib.byteCells_append bs news)
  have HBL := Lib.hid (Lib.byteCells_length bs)
  have HNL := Lib.hid hnl
  have HW := Lib.hid hBw
  unfold IsB
  rw [HAP.out]
  generalize hcs : Lib.byteCells bs = cs at *
  generalize hnw : Lib.byteCells news = ns at *
  clear hcs hnw hv h hm hlen hne hnl hBw
  go_enter Try.func29, Try.ntmps29
  go_wp2_with fail
  refine HC.out.mono ?_
  rintro e w1 ⟨rfl, h1', hw1⟩
  obtain ⟨hB, v, hbk, hown, hne⟩ := h1'
  have hv1 : Own w1 5 1 (.slice (some ⟨g0, o0, none⟩) m c0') m ns := by
    rcases hw1 with rfl | rfl
    · exact HV.out
    · exact HV.out.setCell (p := ⟨b, 0, none⟩) (by simpa [Value.ownBlock] using hg0) _
  have hb1 : Below B w w1 := by
    rcases hw1 with rfl | rfl
    · exact Below.refl _ _
    · exact (Below.refl B w).setCell (p := ⟨b, 0, none⟩) hB _
  clear hw1
  have c0 : w1.cell? ⟨b, 0, none⟩ = some (.pointer (some ⟨b, 0, none⟩)) := by rw [Lib.cell_of_heap hbk]; rfl
  have c1 : w1.cell? ⟨b, 1, none⟩ = some v := by rw [Lib.cell_of_heap hbk]; rfl
  have hn1 : ∀ j u, ns[j]? = some u → w1.cell? ((⟨g0, o0, none⟩ : Addr).add j) = some u := by
    intro j u hj
    obtain ⟨g, o, c, hvv, -, -, -, hcell, -⟩ := hv1.form (by have := HLEN.out.2; rw [HM.out] at this; exact this)
    injection hvv with hA
    injection hA with hA
    injection hA with hg ho
    subst hg ho
    have hjl : j < m * 1 := by have := (List.getElem?_eq_some_iff.1 hj).1; rw [HNL.out] at this; omega
    rw [Addr.add_lit, hcell j hjl, hj]
  have HN1 := Lib.hid hn1
  clear hn1 hv1
  go_wp2_with (at_builtin; refine wpList_append_own _ rfl _ _ 22 rfl B 5 i0 (.int .u8 0) 1 1 Try.underlying22 hi hz0 hz1 hz2 rfl (by decide) _ _ _ rfl hown ⟨g0, o0, none⟩ m c0' ns rfl (by rw [HNL.out]; omega) HN1.out hone ?c3 ?c4 ?c5 ?_)
  case c3 => have h1 := HLEN.out.1; have h2 := HBL.out; have h3 := HM.out; unfold maxLen; omega
  case c4 => have h1 := HLEN.out.1; have h2 := HBL.out; have h3 := HM.out; omega
  case c5 => have := hb1.size; have := HW.out; omega
  intro v' w2 hown' hgrow _
  have hlt : b < w1.heap.size := by
    rcases Nat.lt_or_ge b w1.heap.size with h' | h'
    · exact h'
    · simp [Array.getElem?_eq_none h'] at hbk
  have hb2 : w2.heap[b]? = some (.cells #[.pointer (some ⟨b, 0, none⟩), v] 53 (0, 0)) := by
    rw [hgrow.block b hlt (fun e => hne e.symm)]
    exact hbk
  have d0 : w2.cell? ⟨b, 0, none⟩ = some (.pointer (some ⟨b, 0, none⟩)) := by rw [Lib.cell_of_heap hb2]; rfl
  have d1 : w2.cell? ⟨b, 1, none⟩ = some v := by rw [Lib.cell_of_heap hb2]; rfl
  have f1 : w2.frozen? ⟨b, 1, none⟩ = false := Lib.frozen_of_heap hb2 1
  obtain ⟨ao, n', cap, rfl⟩ : ∃ ao n' cap, v' = .slice ao n' cap := by
    rcases hown'.2 with ⟨hv, _⟩ | ⟨g, cap, cur, hv, _⟩
    · exact ⟨_, _, _, hv⟩
    · exact ⟨_, _, _, hv⟩
  go_wp2
  go_ret2
  refine ⟨rfl, ?_, ?_⟩
  · refine .inr (Lib.BuilderAt.put (T := 53) (e := 5) hB hb2 (bs' := cs ++ ns) ?_ (by decide))
    rw [List.length_append, HNL.out]; exact hown'
  · exact (hb1.grown hgrow (by have := hb1.size; have := HW.out; omega) (fun k hk => (hown.lt k hk).1)).setCell (p := ⟨b, 1, none⟩) hB _

set_option maxHeartbeats 2000000 in
set_option maxRecDepth 100000 in
theorem bstr_some (B b : Nat) (l : List UInt8) (w : World) (h : IsB B b l w) (h0 : l ≠ []) :
    Calls Try.prog 31 #[.pointer (some ⟨b, 0, none⟩)] w fun e w' => e = .returned (.string ⟨l.toArray⟩) ∧ Below B w w' := by
  obtain ⟨p, hB, v, hbk, hown, hne⟩ : ∃ p, Lib.BuilderAt 53 5 B b p (Lib.byteCells l) w := by
    rcases h with h | h
    · exact ⟨_, h⟩
    · exact ⟨_, h⟩
  have hl0 : l.length ≠ 0 := by simpa using h0
  rw [Lib.byteCells_length] at hown
  obtain ⟨g, cap, cur, rfl, hbg, hg, hnc, hcm, hcs, htake⟩ : ∃ g cap cur, v = .slice (some ⟨g, 0, none⟩) l.length cap ∧ B ≤ g ∧ w.heap[g]? = some (.cells cur 5 (0, 0)) ∧ l.length ≤ cap ∧ cap ≤ maxLen ∧ cur.size = cap * 1 ∧ _ := by
    rcases hown.2 with ⟨_, hz⟩ | ⟨g, cap, cur, hv, r⟩
    · exact absurd hz hl0
    · exact ⟨g, cap, cur, hv, r⟩
  have c1 : w.drew.cell? ⟨b, 1, none⟩ = some (.slice (some ⟨g, 0, none⟩) l.length cap) := by
    have : w.drew.heap[b]? = some (.cells #[p, .slice (some ⟨g, 0, none⟩) l.length cap] 53 (0, 0)) := hbk
    rw [Lib.cell_of_heap this]; rfl
  have hSD : (Builtin.unsafeSliceData_ #[22] 67 #[.slice (some ⟨g, 0, none⟩) l.length cap]).run Try.prog w.drew = .ok (.pointer (some ⟨g, 0, none⟩)) w.drew :=
    Lib.run_unsafeSliceData_row _ _ _ _ _ _ (by omega)
  have hUS : (Builtin.unsafeString_ #[67, 3] 9 #[.pointer (some ⟨g, 0, none⟩), .int .i64 l.length]).run Try.prog w.drew = .ok (.string ⟨l.toArray⟩) (w.drew.freeze ⟨g, 0, none⟩ l.length) := by
    refine Lib.run_unsafeString_row w.drew 67 3 9 5 Try.underlying67 bCells g cur.size (by have hg' : w.drew.heap[g]? = some (.cells cur 5 (0, 0)) := hg; simp [World.shape?, hg']) l h0 (by omega) (by unfold maxLen at hcm; omega) ?_
    intro j x hx
    have := hown.cells (g := g) rfl j (.int .u8 x.toNat) (by simp [Lib.byteCells, hx])
    exact this
  go_enter Try.func31, Try.ntmps31
  go_wp2
  go_region
  all_goals (go_wp2; go_ret; exact ⟨rfl, Lib.below_freeze (Below.drew (Below.refl B w)) (p := ⟨g, 0, none⟩) hbg _⟩)
theorem bNone (W : World) (q : Option Addr) : (Builtin.unsafeString_ #[67, 3] 9 #[.pointer q, .int .i64 0]).run Try.prog W = .ok (.string .empty) W :=
  Lib.run_unsafeString_none W _ _ _ q
set_option maxHeartbeats 2000000 in
set_option maxRecDepth 100000 in
theorem bstr_nil (B b : Nat) (p : Value) (w : World) (hbk : w.heap[b]? = some (.cells #[p, .slice none 0 0] 53 (0, 0))) :
    Calls Try.prog 31 #[.pointer (some ⟨b, 0, none⟩)] w fun e w' => e = .returned (.string ⟨#[]⟩) ∧ Below B w w' := by
  have hUS := bNone
  have c1 : w.drew.cell? ⟨b, 1, none⟩ = some (.slice none 0 0) := by
    have : w.drew.heap[b]? = some (.cells #[p, .slice none 0 0] 53 (0, 0)) := hbk
    rw [Lib.cell_of_heap this]; rfl
  have hSD : (Builtin.unsafeSliceData_ #[22] 67 #[.slice none 0 0]).run Try.prog w.drew = .ok (.pointer none) w.drew := rfl
  go_enter Try.func31, Try.ntmps31
  go_wp2
  go_region
  all_goals (go_wp2; go_ret; exact ⟨rfl, Below.drew (Below.refl B w)⟩)
set_option maxHeartbeats 2000000 in
set_option maxRecDepth 100000 in
theorem bstr_noroom (B b g : Nat) (p : Value) (cur : Array Value) (w : World) (hBw : B ≤ w.heap.size) (hbk : w.heap[b]? = some (.cells #[p, .slice (some ⟨g, 0, none⟩) 0 0] 53 (0, 0))) (hg : w.heap[g]? = some (.cells cur 5 (0, 0))) :
    Calls Try.prog 31 #[.pointer (some ⟨b, 0, none⟩)] w fun e w' => e = .returned (.string ⟨#[]⟩) ∧ Below B w w' := by
  have hUS := bNone
  have hlt : b < w.heap.size := by
    rcases Nat.lt_or_ge b w.heap.size with h' | h'
    · exact h'
    · simp [Array.getElem?_eq_none h'] at hbk
  have c1 : w.drew.cell? ⟨b, 1, none⟩ = some (.slice (some ⟨g, 0, none⟩) 0 0) := by
    have : w.drew.heap[b]? = some (.cells #[p, .slice (some ⟨g, 0, none⟩) 0 0] 53 (0, 0)) := hbk
    rw [Lib.cell_of_heap this]; rfl
  have hSD : (Builtin.unsafeSliceData_ #[22] 67 #[.slice (some ⟨g, 0, none⟩) 0 0]).run Try.prog w.drew = .ok (.pointer (some ⟨w.drew.heap.size, 0, none⟩)) (w.drew.alloc (.view ⟨g, 0, none⟩ 5)) :=
    Lib.run_unsafeSliceData_zero w.drew _ _ 5 Try.underlying67 ⟨g, 0, none⟩ 0 (5, cur.size) (by have hg' : w.drew.heap[g]? = some (.cells cur 5 (0, 0)) := hg; simp [World.shape?, hg'])
  have c2 : (w.drew.alloc (.view ⟨g, 0, none⟩ 5)).cell? ⟨b, 1, none⟩ = some (.slice (some ⟨g, 0, none⟩) 0 0) := by
    have : (w.drew.alloc (.view ⟨g, 0, none⟩ 5)).heap[b]? = _ := (Below.heap_alloc w.drew _ b hlt).trans hbk
    rw [Lib.cell_of_heap this]; rfl
  have c3 : (w.alloc (.view ⟨g, 0, none⟩ 5)).drew.cell? ⟨b, 1, none⟩ = some (.slice (some ⟨g, 0, none⟩) 0 0) := c2
  have c0 : w.cell? ⟨b, 1, none⟩ = some (.slice (some ⟨g, 0, none⟩) 0 0) := c1
  go_enter Try.func31, Try.ntmps31
  go_wp2
  go_region
  all_goals (go_wp2; go_ret; exact ⟨rfl, (Below.drew (Below.refl B w)).alloc hBw _⟩)
set_option maxHeartbeats 2000000 in
set_option maxRecDepth 100000 in
theorem bstr_room (B b g cap : Nat) (p : Value) (w : World) (hc0 : cap ≠ 0) (hbk : w.heap[b]? = some (.cells #[p, .slice (some ⟨g, 0, none⟩) 0 cap] 53 (0, 0))) :
    Calls Try.prog 31 #[.pointer (some ⟨b, 0, none⟩)] w fun e w' => e = .returned (.string ⟨#[]⟩) ∧ Below B w w' := by
  have hUS := bNone
  have c1 : w.drew.cell? ⟨b, 1, none⟩ = some (.slice (some ⟨g, 0, none⟩) 0 cap) := by
    have : w.drew.heap[b]? = some (.cells #[p, .slice (some ⟨g, 0, none⟩) 0 cap] 53 (0, 0)) := hbk
    rw [Lib.cell_of_heap this]; rfl
  have hSD : (Builtin.unsafeSliceData_ #[22] 67 #[.slice (some ⟨g, 0, none⟩) 0 cap]).run Try.prog w.drew = .ok (.pointer (some ⟨g, 0, none⟩)) w.drew :=
    Lib.run_unsafeSliceData_row _ _ _ _ _ _ hc0
  clear hc0
  go_enter Try.func31, Try.ntmps31
  go_wp2
  go_region
  all_goals (go_wp2; go_ret; exact ⟨rfl, Below.drew (Below.refl B w)⟩)
theorem bstr_any (B b : Nat) (l : List UInt8) (w : World) (h : IsB B b l w) (hBw : B ≤ w.heap.size) :
    Calls Try.prog 31 #[.pointer (some ⟨b, 0, none⟩)] w fun e w' => e = .returned (.string ⟨l.toArray⟩) ∧ Below B w w' := by
  cases l with
  | cons x r => exact bstr_some B b (x :: r) w h (by simp)
  | nil =>
    obtain ⟨p, hB, v, hbk, hown, hne⟩ : ∃ p, Lib.BuilderAt 53 5 B b p [] w := by
      rcases h with h | h
      · exact ⟨_, h⟩
      · exact ⟨_, h⟩
    rcases hown.2 with ⟨rfl, _⟩ | ⟨g, cap, cur, rfl, hbg, hg, _, _, _, _⟩
    · exact bstr_nil B b p w hbk
    · by_cases hc0 : cap = 0
      · subst hc0
        exact bstr_noroom B b g p cur w hBw hbk hg
      · exact bstr_room B b g cap p w hc0 hbk
theorem isB_new (B : Nat) (w : World) (hB : B ≤ w.heap.size) : IsB B w.heap.size [] (w.alloc (.cells #[.pointer none, .slice none 0 0] 53)) :=
  .inl ⟨hB, .slice none 0 0, heap_alloc_new w _, ⟨rfl, .inl ⟨rfl, rfl⟩⟩, by simp [Value.ownBlock]⟩
/-- It stays as it is where its blocks do. -/
theorem isB_only {T : Nat → Prop} {B b : Nat} {bs : List UInt8} {w w' : World} (h : IsB B b bs w) (ho : Only T w w') (hT : ∀ k, B ≤ k → k < w.heap.size → ¬ T k) : IsB B b bs w' := by
  have key : ∀ p, Lib.BuilderAt 53 5 B b p (Lib.byteCells bs) w → Lib.BuilderAt 53 5 B b p (Lib.byteCells bs) w' := by
    rintro p ⟨hB, v, hb, hown, hne⟩
    have hlt := (Array.getElem?_eq_some_iff.1 hb).1
    refine ⟨hB, v, (ho.block b hlt (hT b hB hlt)).trans hb, ⟨hown.1, ?_⟩, hne⟩
    rcases hown.2 with h | ⟨g, cap, cur, hv, hbg, hg, r⟩
    · exact .inl h
    · have hgl := (Array.getElem?_eq_some_iff.1 hg).1
      exact .inr ⟨g, cap, cur, hv, hbg, (ho.block g hgl (hT g hbg hgl)).trans hg, r⟩
  exact h.imp (key _) (key _)
theorem isB_drewN {B b : Nat} {bs : List UInt8} {w : World} (h : IsB B b bs w) (n : Nat) : IsB B b bs (w.drewN n) := isB_only h ((Only.refl (fun _ => False) w).drewN n) (fun _ _ _ h => h)
end Go.Proofs.Ytoagjhhdijebmaa
