/-
  The contracts of cuts.Join and cuts.Ends; no condition beyond those that each theorem states.
-/
import Derived.Test.YtkppgofiojddoaaJoin1
namespace Go.Proofs.Ytkppgofiojddoaa
open Go.RowKit Go.Rb

set_option maxHeartbeats 1000000 in
theorem join_any (A : Option Addr) (n c : Nat) (vs : List Value) (ps : List (List UInt8)) (w : World) (B1 B2 : Nat) (hx : Rd w B1 1 A n vs) (hp : PR w B2 vs ps) (hB1 : B1 ≤ w.heap.size) (hB2 : B2 ≤ w.heap.size) (hn : n ≤ 100000) (ht : ps.flatten.length ≤ 1000000) :
    Calls Try.prog 14 #[.slice A n c] w (RetNewB w ps.flatten) := by
  have hC := concat_any A n c vs ps w B1 B2 hx hp hB1 hB2 hn ht
  have HC := Lib.hid hC
  clear hC hx hp ht
  go_enter Try.func14, Try.ntmps14
  go_wp2_with (go_at_call 18; refine HC.out.mono ?_; rintro e1 w1 ⟨v1, rfl, hnew1, hbel1, hblk1⟩)
  go_ret
  exact ⟨_, rfl, hnew1, hbel1, hblk1⟩

/-- The place after k pieces, as ints count. -/
def atW (ps : List (List UInt8)) : Nat → Int
  | 0 => 0
  | k + 1 => IntKind.i64.wrap (atW ps k + (((ps.getD k []).length : Nat) : Int))
def endsW (ps : List (List UInt8)) (k : Nat) : List Int := (List.range k).map fun i => atW ps (i + 1)
theorem endsW_succ (ps : List (List UInt8)) (k : Nat) : endsW ps (k + 1) = endsW ps k ++ [atW ps (k + 1)] := by simp [endsW, List.range_succ]
theorem endsW_len (ps : List (List UInt8)) (k : Nat) : (endsW ps k).length = k := by simp [endsW]
theorem flat_le (ps : List (List UInt8)) (k : Nat) (h : ∀ j, j < k → (ps.getD j []).length ≤ 100) (hk : k ≤ ps.length) : (ps.take k).flatten.length ≤ 100 * k := by
  induction k with
  | zero => simp
  | succ k ih =>
    have h1 := ih (fun j hj => h j (by omega)) (by omega)
    have h2 := h k (by omega)
    rw [take_catL ps k (by omega), List.length_append]
    omega
theorem atW_eq (ps : List (List UInt8)) (k : Nat) (h : ∀ j, j < k → (ps.getD j []).length ≤ 100) (hk : k ≤ ps.length) (hn : ps.length ≤ 100000) : atW ps k = (((ps.take k).flatten.length : Nat) : Int) := by
  induction k with
  | zero => simp [atW]
  | succ k ih =>
    have h1 := ih (fun j hj => h j (by omega)) (by omega)
    have h2 := h k (by omega)
    have h3 := flat_le ps (k + 1) h hk
    rw [atW, h1, take_catL ps k (by omega), List.length_append, IntKind.wrap_i64]
    rw [take_catL ps k (by omega), List.length_append] at h3
    omega

set_option maxHeartbeats 1000000 in
theorem ends_any (A : Option Addr) (n c : Nat) (vs : List Value) (ps : List (List UInt8)) (w : World) (B1 B2 : Nat) (hx : Rd w B1 1 A n vs) (hp : PR w B2 vs ps) (hB1 : B1 ≤ w.heap.size) (hn : n ≤ 100000) :
    Calls Try.prog 15 #[.slice A n c] w (RetNewI w (endsW ps n)) := by
  obtain ⟨i0, hi0, hz0, hz1, hz2⟩ := info_parts info3
  have hxl : ps.length = n := by rw [← hp.1]; simpa using hx.1
  have HX := Lib.hid hx
  have HP := Lib.hid hp
  have HXL := Lib.hid hxl
  clear hx hp hxl
  go_enter Try.func15, Try.ntmps15
  go_wp2
  go_loopw [3, 4, 9] (fun v t i wr => ∃ (k : Nat) (z : Int), k ≤ n ∧ i = .int .i64 k ∧ t = .int .i64 z ∧ Hid (z = atW ps k) ∧ Hid (Own wr 3 1 v k ((endsW ps k).map iV)) ∧ Hid (Below w.heap.size w wr) ∧ Hid (∀ g, v.ownBlock = some g → w.heap.size ≤ g)) (fun _ _ i _ => n - (intOf i).toNat)
  case atStart => exact ⟨0, 0, by omega, rfl, rfl, rfl, Own.nil_ _ _ _, Below.refl _ _, by simp [Hid, Value.ownBlock]⟩
  case round =>
    obtain ⟨k, z, hk, rfl, rfl, hz, hown, hb, hbk⟩ := hrel
    by_cases hlt : k < n
    · obtain ⟨bx, ox, rfl, hbx, hcx⟩ := HX.out.2 (by omega)
      have h1 := hcx k (by omega)
      obtain ⟨Ak, ck, h3, _, h4⟩ := HP.out.2 k (by rw [HXL.out]; omega)
      rw [h3] at h1
      have h1' := (hb.out.cell (p := ⟨bx, ox + k, none⟩) (by show bx < _; omega)).trans h1
      have i1 : (k : Int) < (n : Int) := by omega
      have hs : Hid (atW ps (k + 1) = IntKind.i64.wrap (z + (((ps.getD k []).length : Nat) : Int))) := by
        show _ = _
        rw [hz.out]; rfl
      clear hcx h3 h4 h1
      generalize (ps.getD k []).length = l at *
      obtain ⟨A0, cv, rfl, -, -⟩ := hown.out.len_
      go_wp2_with (at_builtin; refine wpList_append_mine _ rfl (.tmp 17) (.tmp 19) _ rfl 3 i0 _ 1 8 Try.underlying23 hi0 hz0 hz1 hz2 rfl (by omega) (.slice A0 k cv) k ((endsW ps k).map iV) rfl (by exact hown.out.alloc _) _ 1 1 [_] rfl rfl (by exact news_push rfl rfl) (by simp [Value.oneCell']) (by omega) (by simp only [maxLen]; omega) (by omega) _ rfl ?_; intro g2 o2 c2 w2 hown2 hgrow2 hat2)
      go_roundw
      case rel =>
        have hsz := hb.out.size
        refine ⟨k + 1, _, by omega, by go_num, rfl, ?_, ?_, ?_, ?_⟩
        · show _ = _
          rw [hs.out]; simp [IntKind.wrap_i64, wrap64]
        · show Own _ _ _ _ _ _
          rw [endsW_succ, List.map_append, List.map_cons, List.map_nil, hs.out]
          simpa [iV, IntKind.wrap_i64, wrap64] using hown2
        · exact Below.grown (by exact hb.out.alloc hsz _) hgrow2 (by simp; omega) (fun g hg => by have := hbk.out g hg; omega)
        · intro g hg
          simp [Value.ownBlock] at hg
          rcases hat2 with h | h
          · exact hbk.out g (h.trans (by rw [hg]))
          · simp at h; omega
      case measure => simp [intOf]; omega
    · have hkn : k = n := by omega
      subst hkn
      go_wp2
      go_ret
      refine ⟨_, rfl, ?_, hb.out, hbk.out⟩
      rw [endsW_len]
      exact hown.out
end Go.Proofs.Ytkppgofiojddoaa
