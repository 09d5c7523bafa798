/-
  The contracts of slices.Grow of nothing, slices.Concat, cuts.Join and cuts.Ends; no condition beyond those that each theorem states.
-/
import Derived.Test.YtkppgofiojddoaaSame1
import Derived.Lib.AppendZeros
namespace Go.Proofs.Ytkppgofiojddoaa
open Go.RowKit Go.Rb

set_option maxHeartbeats 1000000 in
theorem grow_nil (n : Nat) (w : World) (hn : n ≤ 1000000) : Calls Try.prog 19 #[.slice none 0 0, .int .i64 n] w (RetNewB w []) := by
  obtain ⟨i0, hi0, hz0, hz1, hz2⟩ := info_parts info5
  by_cases h0 : n = 0
  · subst h0
    go_enter Try.func19, Try.ntmps19
    go_wp2
    go_ret
    exact ⟨_, rfl, Own.nil_ _ _ _, Below.refl _ _, by simp [Value.ownBlock]⟩
  · have hn0 : 0 < n := by omega
    have hr := Lib.run_append_nil_zeros (P := Try.prog) w 27 3 27 5 i0 (.int .u8 0) .i64 .i64 Try.underlying27 Try.underlying3 hi0 hz0 n hn0 (by omega) (by omega) (by rw [hz2]; omega)
    have hgc := grownCap_le_maxLen w n 0 5 (by simp only [maxLen]; omega)
    have hge := grownCap_ge w n 0 5
    have HR := Lib.hid hr
    generalize grownCap w n 0 5 = cp at *
    clear hr
    have hm := Lib.hid hgc
    clear hgc
    go_enter Try.func19, Try.ntmps19
    go_wp2_with (at_builtin; refine Lib.wpList_append_run _ rfl (.tmp 20) (.tmp 21) _ _ rfl _ _ rfl rfl _ _ HR.out ?_)
    go_ret
    refine ⟨_, rfl, ⟨rfl, .inr ⟨w.heap.size, 0, cp, _, rfl, heap_alloc_new w.drew _, by simp, hm.out, ?_, by simp⟩⟩, (below_al (Below.refl _ w) _).drew, by simp [Value.ownBlock]⟩
    simp only [Array.size_append, size_zeroCells, Value.cells, List.size_toArray, List.length_singleton]
    simp
    omega

def catL (ps : List (List UInt8)) : List UInt8 := ps.flatten
theorem take_catL (ps : List (List UInt8)) (k : Nat) (hk : k < ps.length) : (ps.take (k + 1)).flatten = (ps.take k).flatten ++ ps.getD k [] := by
  rw [List.take_succ_eq_append_getElem hk, List.flatten_append]
  simp [List.getD, List.getElem?_eq_getElem hk]
theorem take_len_le (ps : List (List UInt8)) (k : Nat) : (ps.take k).flatten.length ≤ ps.flatten.length := by
  conv => rhs; rw [← List.take_append_drop k ps, List.flatten_append, List.length_append]
  omega

set_option maxHeartbeats 2000000 in
theorem concat_any (A : Option Addr) (n c : Nat) (vs : List Value) (ps : List (List UInt8)) (w : World) (B1 B2 : Nat) (hx : Rd w B1 1 A n vs) (hp : PR w B2 vs ps) (hB1 : B1 ≤ w.heap.size) (hB2 : B2 ≤ w.heap.size) (hn : n ≤ 100000) (ht : ps.flatten.length ≤ 1000000) :
    Calls Try.prog 18 #[.slice A n c] w (RetNewB w ps.flatten) := by
  obtain ⟨i0, hi0, hz0, hz1, hz2⟩ := info_parts info5
  have hxl : ps.length = n := by rw [← hp.1]; simpa using hx.1
  have HX := Lib.hid hx
  have HP := Lib.hid hp
  have HXL := Lib.hid hxl
  have HT := Lib.hid ht
  have hG : Hid (∀ (n : Nat) (w : World), n ≤ 1000000 → Calls Try.prog 19 #[.slice none 0 0, .int .i64 n] w (RetNewB w [])) := fun n w h => grow_nil n w h
  clear hx hp hxl ht
  go_enter Try.func18, Try.ntmps18
  go_wp2
  go_loopw [3, 11] (fun s i wr => ∃ k t : Nat, k ≤ n ∧ i = .int .i64 k ∧ s = .int .i64 t ∧ t ≤ 1000000 ∧ Hid (t = ((ps.take k).flatten).length) ∧ w = wr) (fun _ i _ => n - (intOf i).toNat)
  case atStart => exact ⟨0, 0, by omega, rfl, rfl, by omega, rfl, rfl⟩
  case round =>
    obtain ⟨k, t, hk, rfl, rfl, htb, htk, rfl⟩ := hrel
    by_cases hlt : k < n
    · obtain ⟨bx, ox, rfl, hbx, hcx⟩ := HX.out.2 (by omega)
      have h1 := hcx k (by omega)
      obtain ⟨Ak, ck, h3, _, h4⟩ := HP.out.2 k (by rw [HXL.out]; omega)
      rw [h3] at h1
      have i1 : (k : Int) < (n : Int) := by omega
      have hs : Hid (t + (ps.getD k []).length = ((ps.take (k + 1)).flatten).length) := by
        show _ = _
        rw [take_catL ps k (by rw [HXL.out]; exact hlt), List.length_append, htk.out]
      have hs2 : t + (ps.getD k []).length ≤ 1000000 := by have := HT.out; have := take_len_le ps (k + 1); have := hs.out; omega
      clear hcx h3 h4
      generalize (ps.getD k []).length = l at *
      go_wp2
      go_roundw
      case rel => exact ⟨k + 1, t + l, by omega, by go_num, by go_num, hs2, hs.out, trivial⟩
      case measure => simp [intOf]; omega
    · have hkn : k = n := by omega
      subst hkn
      go_wp2_with (go_at_call 19; refine (hG.out t _ htb).mono ?_; rintro e1 w1 ⟨v1, rfl, hnew1, hbel1, hblk1⟩)
      go_loopw [6, 27] (fun v i wr => ∃ k' : Nat, k' ≤ k ∧ i = .int .i64 k' ∧ Hid (Own wr 5 1 v ((ps.take k').flatten).length (((ps.take k').flatten).map bV)) ∧ Hid (Below w.heap.size w wr) ∧ Hid (∀ g, v.ownBlock = some g → w.heap.size ≤ g)) (fun _ i _ => k - (intOf i).toNat)
      case atStart => exact ⟨0, by omega, rfl, Lib.hid (by simpa using hnew1), hbel1, hblk1⟩
      case round =>
        obtain ⟨k', hk', rfl, hown, hb, hbk⟩ := hrel
        by_cases hlt' : k' < k
        · obtain ⟨bx, ox, rfl, hbx, hcx⟩ := HX.out.2 (by omega)
          have h1 := hcx k' (by omega)
          obtain ⟨Ak, ck, h3, h5, h4⟩ := HP.out.2 k' (by rw [HXL.out]; omega)
          rw [h3] at h1
          have h1' := (hb.out.cell (p := ⟨bx, ox + k', none⟩) (by show bx < _; omega)).trans h1
          have i1 : (k' : Int) < (k : Int) := by omega
          have hs : Hid ((ps.take (k' + 1)).flatten = (ps.take k').flatten ++ ps.getD k' []) := take_catL ps k' (by rw [HXL.out]; exact hlt')
          have hs2 : ((ps.take k').flatten).length + (ps.getD k' []).length ≤ 1000000 := by have := HT.out; have := take_len_le ps (k' + 1); rw [hs.out, List.length_append] at this; omega
          have h6 := Lib.hid (h4.below (w' := wr) (hb.out.mono (by omega)))
          have H1 := Lib.hid h1
          clear hcx h3 h4 h1
          obtain ⟨Y, hY⟩ : ∃ Y, ps.getD k' [] = Y := ⟨_, rfl⟩
          obtain ⟨X, hX⟩ : ∃ X, (ps.take k').flatten = X := ⟨_, rfl⟩
          rw [hY, hX] at hs
          rw [hY] at h6 h1' h5
          rw [hX] at hown
          rw [hX, hY] at hs2
          clear hX hY
          obtain ⟨A0, cv, rfl, -, -⟩ := hown.out.len_
          have h63 : X.length + Y.length ≤ maxLen := by simp only [maxLen]; omega
          have H63 := Lib.hid h63
          clear h63
          go_wp2_with (at_builtin; refine wpList_append_rd _ rfl (.tmp 31) (.tmp 32) _ rfl 5 i0 _ 1 1 Try.underlying27 hi0 hz0 hz1 hz2 rfl (by omega) (.slice A0 X.length cv) X.length (X.map bV) rfl hown.out B2 Ak Y.length ck (Y.map bV) rfl h6.out (by simp [bV, Value.oneCell']) H63.out (by omega) _ rfl ?_; intro v2 w2 hown2 hgrow2 hat2)
          go_roundw
          case rel =>
            refine ⟨k' + 1, by omega, by go_num, ?_, ?_, ?_⟩
            · show Own _ _ _ _ _ _
              rw [hs.out]; simpa using hown2
            · exact Below.grown hb.out hgrow2 hb.out.size (fun g hg => by have := hbk.out g hg; omega)
            · intro g hg
              rcases hat2 with h | h
              · exact hbk.out g (by rw [← h]; exact hg)
              · have := hb.out.size
                have h' := h.symm.trans hg
                simp at h'; omega
          case measure => simp [intOf]; omega
        · have hkn : k' = k := by omega
          subst hkn
          have he : (ps.take k').flatten = ps.flatten := by rw [List.take_of_length_le (by rw [HXL.out]; omega)]
          rw [he] at hown
          go_wp2
          go_ret
          exact ⟨_, rfl, hown.out, hb.out, hbk.out⟩
end Go.Proofs.Ytkppgofiojddoaa
