/-
  The contracts of the pipe's functions first and Send; no condition beyond those that each theorem states.
-/
import Derived.Test.YtfndppjicneliaaPipe2
import Derived.Handy
namespace Go.Proofs.Ytfndppjicneliaa
open Go.RowKit Go.Rb
attribute [local irreducible] Go.wpQuiet

set_option maxHeartbeats 2000000 in
theorem first_any {S : Nat → Prop} {p : Nat} {s : PS} {iv ov : Value} (o : Of) (t : List Of) (w : World) (h : RepA w S p iv ov s) (ho : s.ofs = o :: t) :
    Calls Try.prog 24 #[pp p] w fun e w' => e = .returned o.2.v ∧ Only S w w' ∧ w.heap.size + 2 = w'.heap.size ∧ ∃ ov', RepA w' S p iv ov' { s with ofs := t } := by
  have h0 : 0 < s.ofs.length := by rw [ho]; simp
  obtain ⟨g, off, cap, rfl, hcap, hg, kk⟩ := h.oat h0
  have c2 := h.c2
  have f2 := h.fp 2
  have hpl := h.lt _ h.sp
  have k1 := kk 1 (by omega); have k2 := kk 2 (by omega); have k3 := kk 3 (by omega); have k4 := kk 4 (by omega); have k5 := kk 5 (by omega); have k6 := kk 6 (by omega); have k7 := kk 7 (by omega)
  have e0 : s.ofs[0] = o := by simp [ho]
  rw [e0] at k1 k2 k3 k4 k5 k6 k7
  have hl : s.ofs.length = t.length + 1 := by rw [ho]; rfl
  have key : Hid (∀ v', Own w 64 8 v' t.length (ocs t) → (∀ k, v'.ownBlock = some k → S k) → ∀ c1 c2, Only S w (((w.setCell ⟨p, 2, none⟩ v').alloc c1).alloc c2) ∧ w.heap.size + 2 = (((w.setCell ⟨p, 2, none⟩ v').alloc c1).alloc c2).heap.size ∧ ∃ ov', RepA (((w.setCell ⟨p, 2, none⟩ v').alloc c1).alloc c2) S p iv ov' { s with ofs := t }) := by
    intro v' hv hs c1 c2
    have h1 := h.setOf v' t hv hs
    have h2 := h1.below ((Below.refl _ _).alloc (Nat.le_refl _) c1)
    have h3 := h2.below ((Below.refl _ _).alloc (Nat.le_refl _) c2)
    exact ⟨(((Only.refl S w).setCell (p := ⟨p, 2, none⟩) (fun _ => h.sp) _).alloc _).alloc _, by simp [World.setCell], v', h3⟩
  have hsg : S g := h.so g rfl
  have ht := h.oo.tail_ 1 (by omega)
  rw [hl] at ht
  have e1 : (ocs s.ofs).drop (1 * 8) = ocs t := by rw [ho]; rfl
  rw [e1, Nat.add_sub_cancel] at ht
  have HT := Lib.hid ht
  have HSG := Lib.hid hsg
  clear ht hsg e1
  clear h kk ho e0
  obtain ⟨x, n, buf, rn, ra, rt, ha, hn', hcp, err⟩ := o
  simp only [ofc, It.cs, List.getElem?_cons_zero, List.getElem?_cons_succ, Nat.add_zero, Nat.zero_mul] at k1 k2 k3 k4 k5 k6 k7
  generalize s.ofs.length = m at *
  subst hl
  unfold pp It.v
  go_enter Try.func24, Try.ntmps24
  go_wp2_with fail
  · go_returns
    refine ⟨rfl, key.out _ ?_ ?_ _ _⟩
    · have := HT.out; rw [if_pos h, h] at this; exact this
    · intro k hk; simp [Value.ownBlock] at hk; rw [← hk]; exact HSG.out
  · go_returns
    refine ⟨rfl, key.out _ ?_ ?_ _ _⟩
    · have := HT.out; rw [if_neg h] at this; exact this
    · intro k hk; simp [Value.ownBlock] at hk; rw [← hk]; exact HSG.out
end Go.Proofs.Ytfndppjicneliaa
