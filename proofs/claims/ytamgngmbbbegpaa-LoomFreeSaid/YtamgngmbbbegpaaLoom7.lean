/-
  The contracts of the loom's Add, Turns, New; no condition beyond those that each theorem states.
-/
import Derived.Test.YtamgngmbbbegpaaLoom6
namespace Go.Proofs.Ytamgngmbbbegpaa
open Go.RowKit Go.Rb
attribute [local irreducible] Go.wpQuiet

def tbu (tb : Nat → Nat) (m t : Nat) : Nat → Nat := fun i => if i = m then t else tb i
theorem tbu_lt {tb : Nat → Nat} {m t i : Nat} (h : i < m) : tbu tb m t i = tb i := by unfold tbu; rw [if_neg (by omega)]
theorem tbu_at (tb : Nat → Nat) (m t : Nat) : tbu tb m t m = t := by unfold tbu; rw [if_pos rfl]
theorem ifs_tbu (tb : Nat → Nat) (m t : Nat) : ifs (tbu tb m t) (m + 1) = ifs tb m ++ [iF t] := by
  rw [ifs_succ, tbu_at]
  congr 1
  unfold ifs
  apply List.map_congr_left
  intro i hi
  rw [tbu_lt (List.mem_range.1 hi)]
section
variable {w w' : World} {B : Nat} {S L T : Nat → Prop} {lp sp : Nat} {J : Option Addr} {n cj : Nat} {tv lv tnv : Value} {tb : Nat → Nat} {m : Nat} {js : List Jb} {tk : List Int} {tn : List Nat}
theorem LmA.put (h : LmA w B S L lp sp J n cj tv lv tnv tb m js tk tn) (hmn : m < n) {t : Nat} (ht : Blk w t 53 #[pp sp, nV m]) (htB : B ≤ t) (htS : ¬ S t) {o : Obj} {w5 : World} {g off c : Nat}
    (hO : Own w5 58 1 (.slice (some ⟨g, off, none⟩) (m + 1) c) (m + 1) (ifs tb m ++ [iF t])) (hG : (w.alloc o).grownBy w5 lv.ownBlock) (hat : lv.ownBlock = some g ∨ g = (w.alloc o).heap.size) :
    LmA (w5.setCell ⟨lp, 0, none⟩ (.slice (some ⟨g, off, none⟩) (m + 1) c)) B S (fun k => L k ∨ k = g ∨ k = t) lp sp J n cj tv (.slice (some ⟨g, off, none⟩) (m + 1) c) tnv (tbu tb m t) (m + 1) js tk tn ∧
    Only L w (w5.setCell ⟨lp, 0, none⟩ (.slice (some ⟨g, off, none⟩) (m + 1) c)) ∧ w5.frozen? ⟨lp, 0, none⟩ = false ∧ w5.cell? ⟨lp, 0, none⟩ = some lv ∧ (L g ∨ w.heap.size ≤ g) := by
  have h5 : Only (fun k => lv.ownBlock = some k) w w5 := ((Only.refl _ w).alloc o).grown hG (fun k hk _ => hk)
  have hL5 : Only L w w5 := h5.mono fun k _ hk => h.Lv k hk
  have hL6 : Only L w (w5.setCell ⟨lp, 0, none⟩ (.slice (some ⟨g, off, none⟩) (m + 1) c)) := hL5.setCell (p := ⟨lp, 0, none⟩) (fun _ => h.Ll) _
  have hlb : Blk w5 lp 56 #[lv, tnv] := h.lb.only h5 (own_ne_blk h.lo h.lb (by decide))
  have hsz : w5.heap.size = (w5.setCell ⟨lp, 0, none⟩ (.slice (some ⟨g, off, none⟩) (m + 1) c)).heap.size := by simp [World.setCell]
  have hg5 : g < w5.heap.size := hO.lt rfl
  have hgL : L g ∨ w.heap.size ≤ g := hat.elim (fun e => .inl (h.Lv g e)) (fun e => .inr (by rw [e]; simp))
  have ht5 : Blk w5 t 53 #[pp sp, nV m] := ht.only h5 (own_ne_blk h.lo ht (by decide))
  refine ⟨⟨h.sa.frame hL6 (fun k hk hh => h.dj k hh hk) (fun k hk hh => by have := h.lB k hh; omega), hlb.set_ 0 _, ?_, fun i hi => ?_, hmn, (h.tu.only h5 (own_ne' h.tu h.lo (by decide))).setCell (p := ⟨lp, 0, none⟩) (own_ne_blk (h.tu.only h5 (own_ne' h.tu h.lo (by decide))) hlb (by decide)) _, .inl h.Ll, fun k hk => .inr (.inl ?_), fun k hk => .inl (h.Lt k hk), fun i hi => ?_, fun k hk => ?_, fun k hk => ?_, fun k hk hs => ?_⟩, hL6, hlb.frozen 0, by rw [hlb.cell]; rfl, hgL⟩
  · rw [ifs_tbu]
    exact hO.setCell (p := ⟨lp, 0, none⟩) (own_ne_blk hO hlb (by decide)) _
  · by_cases e : i = m
    · subst e
      rw [tbu_at]
      exact ht5.far (p := ⟨lp, 0, none⟩) (Blk.ne_ ht5 hlb (by decide)) _
    · rw [tbu_lt (by omega)]
      have hb := (h.bx i (by omega)).only h5 (own_ne_blk h.lo (h.bx i (by omega)) (by decide))
      exact hb.far (p := ⟨lp, 0, none⟩) (Blk.ne_ hb hlb (by decide)) _
  · have : g = k := by simpa [Value.ownBlock] using hk
    exact this.symm
  · by_cases e : i = m
    · subst e
      rw [tbu_at]; exact .inr (.inr rfl)
    · rw [tbu_lt (by omega)]; exact .inl (h.Lb i (by omega))
  · rw [← hsz]
    rcases hk with hk | rfl | rfl
    · exact Nat.lt_of_lt_of_le (h.lt k hk) h5.size
    · exact hg5
    · exact Nat.lt_of_lt_of_le ht.lt h5.size
  · rcases hk with hk | rfl | rfl
    · exact h.lB k hk
    · rcases hgL with hk | hk
      · exact h.lB _ hk
      · have := h.sa.hB; omega
    · exact htB
  · rcases hk with hk | rfl | rfl
    · exact h.dj k hk hs
    · rcases hgL with hk | hk
      · exact h.dj _ hk hs
      · have := h.sa.lt _ hs; omega
    · exact htS hs

set_option maxRecDepth 20000 in
set_option maxHeartbeats 2000000 in
theorem lAdd_any (h : LmA w B S L lp sp J n cj tv lv tnv tb m js tk tn) (hmn : m < n) (hn : n ≤ 1000) {t : Nat} (ht : Blk w t 53 #[pp sp, nV m]) (htB : B ≤ t) (htS : ¬ S t) :
    Calls Try.prog 17 #[pp lp, iF t] w fun e w' => e = .returned (.int .i64 (m : Int)) ∧ ∃ L' lv', LmA w' B S L' lp sp J n cj tv lv' tnv (tbu tb m t) (m + 1) js tk tn ∧ (∀ k, L' k → L k ∨ k = t ∨ w.heap.size ≤ k) ∧ Only L w w' := by
  obtain ⟨i0, hi0, hz0, hz1, hz2⟩ : ∃ i0, Try.prog.info? 58 = some i0 ∧ i0.zero = some .nilIface ∧ i0.size = 1 ∧ i0.bytes = 16 := by
    exact info_parts (by kernel_rfl)
  have HH := Lib.hid h
  have HT := Lib.hid ht
  have c0 := h.c0
  obtain ⟨Al, cl, rfl, -, -⟩ := h.lo.len_
  clear h ht
  unfold pp iF
  go_enter Try.func17, Try.ntmps17
  go_wp2_with (at_builtin; refine wpList_append_mine _ rfl (.tmp 11) (.tmp 13) _ rfl 58 i0 _ 1 16 Try.underlying54 hi0 hz0 hz1 hz2 rfl (by omega) (.slice Al m cl) m (ifs tb m) rfl (by exact HH.out.lo.alloc _) _ 1 1 [_] rfl rfl (by exact news_push rfl rfl) (by simp [Value.oneCell']) (by omega) (by simp only [maxLen]; omega) (by omega) _ rfl ?_; intro g5 o5 c5 w5 hown5 hgrow5 hat5; have HX5 := Lib.hid (HH.out.put hmn HT.out htB htS hown5 hgrow5 hat5); have f5 := HX5.out.2.2.1; have d5 := HX5.out.2.2.2.1; clear hown5 hgrow5 hat5)
  go_ret
  refine ⟨by simp, _, _, HX5.out.1, fun k hk => ?_, HX5.out.2.1⟩
  rcases hk with hk | rfl | rfl
  · exact .inl hk
  · exact HX5.out.2.2.2.2.elim .inl fun h => .inr (.inr h)
  · exact .inr (.inl rfl)
end
end Go.Proofs.Ytamgngmbbbegpaa
