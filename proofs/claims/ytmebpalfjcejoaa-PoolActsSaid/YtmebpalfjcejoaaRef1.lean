/-
  How the document's pool (reedbedref06) lies in memory, and the contracts of its functions is, Take, View, Bytes; no condition beyond those that each theorem states.
-/
import Derived.Test.YtmebpalfjcejoaaPool6
import Derived.Test.YtmebpalfjcejoaaRegion2
namespace Go.Proofs.Ytmebpalfjcejoaa
open Go.RowKit Go.Rb

theorem infoS : (Try.prog.info? 9).map (fun i => (i.zero, i.size, i.bytes)) = some (some (.string ⟨#[]⟩), 1, 16) := by kernel_rfl
def sV (b : List UInt8) : Value := .string ⟨b.toArray⟩

/-- The document's pool at p: how often each is held at hv, its octets at bv, the line at lv; all in blocks of S. -/
structure RefA (w : World) (S : Nat → Prop) (p : Nat) (hv bv lv : Value) (s : PS) : Prop where
  pb : Blk w p 56 #[hv, bv, lv, nV s.size]
  ho : Own w 3 1 hv s.hs.length (s.hs.map nV)
  bo : Own w 9 1 bv s.bs.length (s.bs.map sV)
  lo : Own w 3 1 lv s.ln.length (s.ln.map nV)
  ne : ∀ k, hv.ownBlock = some k → lv.ownBlock ≠ some k
  bl : s.bs.length = s.hs.length
  sp : S p
  sh : ∀ k, hv.ownBlock = some k → S k
  sb : ∀ k, bv.ownBlock = some k → S k
  sl : ∀ k, lv.ownBlock = some k → S k
  lt : ∀ k, S k → k < w.heap.size
  nn : s.hs.length ≤ 64
  nz : s.size ≤ 4096
def RefR (w : World) (S : Nat → Prop) (p : Nat) (s : PS) : Prop := ∃ hv bv lv, RefA w S p hv bv lv s

section
variable {w w' : World} {S S' T : Nat → Prop} {p : Nat} {hv bv lv : Value} {s : PS}
theorem RefA.c0 (h : RefA w S p hv bv lv s) : w.cell? ⟨p, 0, none⟩ = some hv := by rw [h.pb.cell]; rfl
theorem RefA.c1 (h : RefA w S p hv bv lv s) : w.cell? ⟨p, 1, none⟩ = some bv := by rw [h.pb.cell]; rfl
theorem RefA.c2 (h : RefA w S p hv bv lv s) : w.cell? ⟨p, 2, none⟩ = some lv := by rw [h.pb.cell]; rfl
theorem RefA.c3 (h : RefA w S p hv bv lv s) : w.cell? ⟨p, 3, none⟩ = some (.int .i64 (s.size : Int)) := by rw [h.pb.cell]; rfl
theorem RefA.frame (h : RefA w S p hv bv lv s) (hb : Only T w w') (hd : ∀ k, S k → ¬ T k) : RefA w' S p hv bv lv s :=
  ⟨h.pb.only hb (hd _ h.sp), h.ho.only hb fun k hk => hd _ (h.sh k hk), h.bo.only hb fun k hk => hd _ (h.sb k hk), h.lo.only hb fun k hk => hd _ (h.sl k hk), h.ne, h.bl, h.sp, h.sh, h.sb, h.sl,
    fun k hk => Nat.lt_of_lt_of_le (h.lt k hk) hb.size, h.nn, h.nz⟩
theorem RefA.mono (h : RefA w S p hv bv lv s) (hs : ∀ k, S k → S' k) (hl : ∀ k, S' k → k < w.heap.size) : RefA w S' p hv bv lv s :=
  ⟨h.pb, h.ho, h.bo, h.lo, h.ne, h.bl, hs _ h.sp, fun k hk => hs _ (h.sh k hk), fun k hk => hs _ (h.sb k hk), fun k hk => hs _ (h.sl k hk), hl, h.nn, h.nz⟩
theorem RefA.setLine (h : RefA w S p hv bv lv s) (lv' : Value) (ln' : List Nat) (ho : Own w 3 1 lv' ln'.length (ln'.map nV)) (hne : ∀ k, hv.ownBlock = some k → lv'.ownBlock ≠ some k) (hs : ∀ k, lv'.ownBlock = some k → S k) :
    RefA (w.setCell ⟨p, 2, none⟩ lv') S p hv bv lv' { s with ln := ln' } :=
  ⟨by simpa using h.pb.set_ 2 lv', h.ho.setCell (p := ⟨p, 2, none⟩) (own_ne_blk h.ho h.pb (by decide)) _, h.bo.setCell (p := ⟨p, 2, none⟩) (own_ne_blk h.bo h.pb (by decide)) _,
    ho.setCell (p := ⟨p, 2, none⟩) (own_ne_blk ho h.pb (by decide)) _, hne, h.bl, h.sp, h.sh, h.sb, hs, fun k hk => by simpa [World.setCell] using h.lt k hk, h.nn, h.nz⟩
/-- Where the numbers and the octets lie. -/
theorem RefA.hform (h : RefA w S p hv bv lv s) {i : Nat} (hi : i < s.hs.length) : ∃ g off cap, hv = .slice (some ⟨g, off, none⟩) s.hs.length cap ∧ w.cell? ⟨g, off + i, none⟩ = some (.int .i64 (s.hs.getD i 0 : Nat)) ∧ w.frozen? ⟨g, off + i, none⟩ = false ∧ S g ∧ g ≠ p := by
  obtain ⟨g, off, cap, hv', _, _, _, hc, hf⟩ := h.ho.form (by omega)
  refine ⟨g, off, cap, hv', ?_, hf _, h.sh g (by rw [hv']; rfl), fun e => own_ne_blk h.ho h.pb (by decide) (by rw [hv', ← e]; rfl)⟩
  rw [hc i (by omega), List.getElem?_map, List.getElem?_eq_getElem hi]
  simp [nV, List.getD, hi]
theorem RefA.bform (h : RefA w S p hv bv lv s) {i : Nat} (hi : i < s.hs.length) : ∃ g off cap, bv = .slice (some ⟨g, off, none⟩) s.bs.length cap ∧ w.cell? ⟨g, off + i, none⟩ = some (.string ⟨(s.bs.getD i []).toArray⟩) ∧ w.frozen? ⟨g, off + i, none⟩ = false ∧ S g ∧ g ≠ p := by
  have hi' : i < s.bs.length := by rw [h.bl]; exact hi
  obtain ⟨g, off, cap, hv', _, _, _, hc, hf⟩ := h.bo.form (by omega)
  refine ⟨g, off, cap, hv', ?_, hf _, h.sb g (by rw [hv']; rfl), fun e => own_ne_blk h.bo h.pb (by decide) (by rw [hv', ← e]; rfl)⟩
  rw [hc i (by omega), List.getElem?_map, List.getElem?_eq_getElem hi']
  simp [sV, List.getD, hi']
theorem RefA.setHold (h : RefA w S p hv bv lv s) {g off cap : Nat} (hf : hv = .slice (some ⟨g, off, none⟩) s.hs.length cap) (i m : Nat) (hi : i < s.hs.length) :
    RefA (w.setCell ⟨g, off + i, none⟩ (.int .i64 (m : Int))) S p hv bv lv { s with hs := s.hs.set i m } := by
  have hob : hv.ownBlock = some g := by rw [hf]; rfl
  have hgp : p ≠ g := by rintro rfl; exact own_ne_blk h.ho h.pb (by decide) hob
  have hst := (hf ▸ h.ho).store i (by omega) (.int .i64 (m : Int))
  refine ⟨by simpa using h.pb.far (p := ⟨g, off + i, none⟩) hgp _, ?_, h.bo.setCell (p := ⟨g, off + i, none⟩) (fun e => own_ne' h.ho h.bo (by decide) g hob e) _, h.lo.setCell (p := ⟨g, off + i, none⟩) (h.ne g hob) _, h.ne, by simpa using h.bl,
    h.sp, h.sh, h.sb, h.sl, fun k hk => by simpa [World.setCell] using h.lt k hk, by simpa using h.nn, h.nz⟩
  rw [hf]
  simp only [List.length_set, List.map_set]
  exact hst
theorem RefA.setBuf (h : RefA w S p hv bv lv s) {g off cap : Nat} (hf : bv = .slice (some ⟨g, off, none⟩) s.bs.length cap) (i : Nat) (hi : i < s.bs.length) (b : List UInt8) :
    RefA (w.setCell ⟨g, off + i, none⟩ (.string ⟨b.toArray⟩)) S p hv bv lv { s with bs := s.bs.set i b } := by
  have hob : bv.ownBlock = some g := by rw [hf]; rfl
  have hgp : p ≠ g := by rintro rfl; exact own_ne_blk h.bo h.pb (by decide) hob
  have hst := (hf ▸ h.bo).store i (by omega) (.string ⟨b.toArray⟩)
  refine ⟨by simpa using h.pb.far (p := ⟨g, off + i, none⟩) hgp _, h.ho.setCell (p := ⟨g, off + i, none⟩) (fun e => own_ne' h.bo h.ho (by decide) g hob e) _, ?_, h.lo.setCell (p := ⟨g, off + i, none⟩) (fun e => own_ne' h.bo h.lo (by decide) g hob e) _, h.ne, by simpa using h.bl,
    h.sp, h.sh, h.sb, h.sl, fun k hk => by simpa [World.setCell] using h.lt k hk, h.nn, h.nz⟩
  rw [hf]
  simp only [List.length_set, List.map_set]
  exact hst
/-- A new line. -/
theorem RefA.newLine (h : RefA w S p hv bv lv s) (hb : Only (fun k => w.heap.size ≤ k) w w') (lv' : Value) (ln' : List Nat) (ho : Own w' 3 1 lv' ln'.length (ln'.map nV)) (hn : ∀ k, lv'.ownBlock = some k → w.heap.size ≤ k) :
    RefA (w'.setCell ⟨p, 2, none⟩ lv') (fun k => S k ∨ (w.heap.size ≤ k ∧ k < (w'.setCell ⟨p, 2, none⟩ lv').heap.size)) p hv bv lv' { s with ln := ln' } := by
  have h1 := h.frame hb (fun k hk => by have := h.lt k hk; omega)
  have h2 := h1.mono (S' := fun k => S k ∨ (w.heap.size ≤ k ∧ k < w'.heap.size)) (fun _ hk => .inl hk) (fun k hk => by rcases hk with hk | hk; exact h1.lt k hk; exact hk.2)
  have h3 := h2.setLine lv' ln' ho (fun k hk e => by have := h.lt k (h.sh k hk); have := hn k e; omega) (fun k hk => .inr ⟨hn k hk, ho.lt hk⟩)
  simpa [World.setCell] using h3
end

def RWent (w : World) (S : Nat → Prop) (p : Nat) (s' : PS) (w' : World) : Prop := Only S w w' ∧ RefR w' (fun k => S k ∨ (w.heap.size ≤ k ∧ k < w'.heap.size)) p s'
theorem RWent.of {w w' : World} {S : Nat → Prop} {p : Nat} {hv bv lv : Value} {s' : PS} (ho : Only S w w') (h : RefA w' S p hv bv lv s') : RWent w S p s' w' :=
  ⟨ho, hv, bv, lv, h.mono (fun _ hk => .inl hk) fun k hk => by rcases hk with hk | hk; exact h.lt k hk; exact hk.2⟩

set_option maxHeartbeats 1000000 in
theorem is_any {S : Nat → Prop} {p : Nat} {hv bv lv : Value} {s : PS} (i : Int) (w : World) (h : RefA w S p hv bv lv s) :
    Calls Try.prog 29 #[pp p, .int .i64 i] w fun e w' => e = .returned (.bool (decide (heldB s i))) ∧ w = w' := by
  have c0 := h.c0
  obtain ⟨A, cap, hvl, -, -⟩ := h.ho.len_
  unfold pp
  by_cases h1 : i < 0
  · have hh : ¬ heldB s i := fun x => by have := x.1; omega
    rw [decide_eq_false hh]
    have i1 : ¬ (0 ≤ i) := by omega
    clear h hh
    go_enter Try.func29, Try.ntmps29
    go_wp2
    go_ret
    exact ⟨rfl, rfl⟩
  · by_cases h2 : (s.hs.length : Int) ≤ i
    · have hh : ¬ heldB s i := fun x => by have := x.2.1; omega
      rw [decide_eq_false hh]
      have i1 : 0 ≤ i := by omega
      have i2 : ¬ (i < (s.hs.length : Int)) := by omega
      subst hvl
      clear h hh
      generalize s.hs.length = n at *
      go_enter Try.func29, Try.ntmps29
      go_wp2
      go_ret
      exact ⟨rfl, rfl⟩
    · obtain ⟨k, rfl⟩ := Int.eq_ofNat_of_zero_le (show 0 ≤ i by omega)
      have hk : k < s.hs.length := by omega
      obtain ⟨g, off, cap', hv', ch, -, -, -⟩ := h.hform hk
      have e : decide (heldB s (k : Int)) = decide ((0 : Int) < ((s.hs.getD k 0 : Nat) : Int)) := by
        apply decide_eq_decide.2
        unfold heldB
        simp only [Int.toNat_natCast]
        omega
      rw [e]
      subst hv'
      clear h e hvl
      generalize s.hs.getD k 0 = m at *
      generalize s.hs.length = n at *
      have i2 : (k : Int) < (n : Int) := by omega
      go_enter Try.func29, Try.ntmps29
      go_wp2
      go_ret
      exact ⟨by simp, rfl⟩

set_option maxHeartbeats 1000000 in
theorem rtake_any {S : Nat → Prop} {p : Nat} {s : PS} (w : World) (hR : RefR w S p s) (hln : ∀ k ∈ s.ln, k < s.hs.length) :
    Calls Try.prog 20 #[pp p] w fun e w' => e = .returned (.tuple #[.int .i64 (takeX s), .int .i64 (takeE s)]) ∧ RWent w S p (takeS s) w' := by
  obtain ⟨hv, bv, lv, h⟩ := hR
  have c0 := h.c0
  have c2 := h.c2
  have hlo := h.lo
  unfold takeX takeE takeS
  unfold pp
  cases hl : s.ln with
  | nil =>
    rw [hl] at hlo
    obtain ⟨A, cap, rfl, -, -⟩ := hlo.len_
    have H := Lib.hid h
    clear h hlo hl hln
    go_enter Try.func20, Try.ntmps20
    go_wp2
    go_ret2
    exact ⟨rfl, RWent.of (Only.refl _ _) H.out⟩
  | cons k t =>
    rw [hl] at hlo
    obtain ⟨g, off, cap, rfl, hnc, hcm, hg, hc, hfz⟩ := hlo.form (by simp)
    have hk : k < s.hs.length := hln k (by rw [hl]; simp)
    have htl := hlo.tail_ 1 (by simp)
    have c3 := hc 0 (by simp)
    simp only [List.map_cons, List.getElem?_cons_zero, nV, Nat.add_zero] at c3
    obtain ⟨gh, oh, caph, hvf, ch, fh, sgh, hgp⟩ := h.hform hk
    have c0' : ∀ x, (w.setCell ⟨p, 2, none⟩ x).cell? ⟨p, 0, none⟩ = some hv := fun x => (setCell_other (by simp) x).trans c0
    have ch' : ∀ x, (w.setCell ⟨p, 2, none⟩ x).cell? ⟨gh, oh + k, none⟩ = some (.int .i64 (s.hs.getD k 0 : Nat)) := fun x => (setCell_other (by simp [Ne.symm hgp]) x).trans ch
    have f1 := h.pb.frozen 2
    have i3 : (k : Int) < (s.hs.length : Int) := by omega
    have hne := h.ne
    have hsg : Hid (S g) := h.sl g rfl
    have key : Hid (∀ lvv, Own w 3 1 lvv t.length (t.map nV) → lvv.ownBlock = some g →
        RWent w S p { s with hs := s.hs.set k 1, ln := t } ((w.setCell ⟨p, 2, none⟩ lvv).setCell ⟨gh, oh + k, none⟩ (.int .i64 1))) := by
      intro lvv h1 h2
      have h3 := h.setLine lvv t h1 (fun kk hkk e => h.ne kk hkk (by rw [← e, h2]; rfl)) (fun kk hkk => by rw [h2] at hkk; injection hkk with hkk; subst hkk; exact hsg.out)
      exact RWent.of (((Only.refl S w).setCell (p := ⟨p, 2, none⟩) (fun _ => h.sp) _).setCell (p := ⟨gh, oh + k, none⟩) (fun _ => sgh) _) (h3.setHold hvf k 1 hk)
    have HT := Lib.hid htl
    subst hvf
    clear h htl hlo hc hfz hln hl hne
    simp only [List.length_cons] at c2 hnc ⊢
    generalize s.hs.getD k 0 = m at *
    generalize hN : s.hs.length = n at c0 c0' i3 hk
    generalize hM : t.length = tl at c2 hnc
    by_cases hc1 : cap = 1
    · subst hc1
      go_enter Try.func20, Try.ntmps20
      go_wp2
      go_ret2
      have htl0 : tl = 0 := by omega
      have hto := HT.out
      rw [htl0] at hM
      have hto' : Own w 3 1 (.slice (some ⟨g, off, none⟩) 0 0) t.length (t.map nV) := by rw [hM]; simpa [hM] using hto
      exact ⟨rfl, key.out _ hto' rfl⟩
    · go_enter Try.func20, Try.ntmps20
      go_wp2
      go_ret2
      exact ⟨rfl, key.out _ (by have := HT.out; rw [if_neg hc1] at this; simpa [hM] using this) rfl⟩
end Go.Proofs.Ytmebpalfjcejoaa
