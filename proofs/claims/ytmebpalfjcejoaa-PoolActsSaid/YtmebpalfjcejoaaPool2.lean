/-
  The contracts of the pool's functions held, Take, Octets, Holds, Hold, Fill; no condition beyond those that each theorem states.
-/
import Derived.Test.YtmebpalfjcejoaaPool1
namespace Go.Proofs.Ytmebpalfjcejoaa
open Go.RowKit Go.Rb

def heldB (s : PS) (i : Int) : Prop := 0 ≤ i ∧ i < (s.hs.length : Int) ∧ 0 < s.hs.getD i.toNat 0
instance (s : PS) (i : Int) : Decidable (heldB s i) := by unfold heldB; exact inferInstance
def hOf (s : PS) (i : Int) : Nat := s.hs.getD i.toNat 0
def bOf (s : PS) (i : Int) : List UInt8 := s.bs.getD i.toNat []
def takeS (s : PS) : PS := match s.ln with | [] => s | k :: t => { s with hs := s.hs.set k 1, ln := t }
def takeX (s : PS) : Int := match s.ln with | [] => 0 | k :: _ => (k : Int)
def takeE (s : PS) : Int := match s.ln with | [] => 19 | _ :: _ => 0
def fillE (s : PS) (i : Int) (b : List UInt8) : Int := if heldB s i then (if 1 < hOf s i then 18 else if s.size < b.length then 16 else 0) else 2
def fillS (s : PS) (i : Int) (b : List UInt8) : PS := if fillE s i b = 0 then { s with bs := s.bs.set i.toNat b } else s
def turnE (s : PS) (i : Int) : Int := if heldB s i then 0 else 2
def holdS (s : PS) (i : Int) : PS := if heldB s i then { s with hs := s.hs.set i.toNat (hOf s i + 1) } else s
def dropS (s : PS) (i : Int) : PS :=
  if heldB s i then (if hOf s i = 1 then { s with hs := s.hs.set i.toNat 0, bs := s.bs.set i.toNat [], ln := s.ln ++ [i.toNat] } else { s with hs := s.hs.set i.toNat (hOf s i - 1) }) else s
def octO (s : PS) (i : Int) : List UInt8 := if heldB s i then bOf s i else []
def holdsO (s : PS) (i : Int) : Nat := if heldB s i then hOf s i else 0
def bytesO (s : PS) : Nat := (s.bs.map List.length).sum
def viewOk (s : PS) (i f t : Int) : Prop := heldB s i ∧ 0 ≤ f ∧ f ≤ t ∧ t ≤ ((bOf s i).length : Int)
instance (s : PS) (i f t : Int) : Decidable (viewOk s i f t) := by unfold viewOk; exact inferInstance
def viewE (s : PS) (i f t : Int) : Int := if viewOk s i f t then 0 else 2
def viewO (s : PS) (i f t : Int) : List UInt8 := if viewOk s i f t then ((bOf s i).drop f.toNat).take (t.toNat - f.toNat) else []
def newS (n size : Nat) : PS := ⟨List.replicate n 0, List.replicate n [], List.range n, size⟩

/-- What a call has done: the pool is s' then; it wrote into the pool's own blocks alone. -/
def Went (w : World) (S : Nat → Prop) (p : Nat) (s' : PS) (w' : World) : Prop := Only S w w' ∧ Rep w' (fun k => S k ∨ (w.heap.size ≤ k ∧ k < w'.heap.size)) p s'
theorem Went.of {w w' : World} {S : Nat → Prop} {p ga : Nat} {lv : Value} {vs : Nat → Value} {s' : PS} (ho : Only S w w') (h : RepA w' S p ga lv vs s') : Went w S p s' w' :=
  ⟨ho, ga, lv, vs, h.mono (fun _ hk => .inl hk) fun k hk => by rcases hk with hk | hk; exact h.lt k hk; exact hk.2⟩
theorem Went.of_new {w w' : World} {S : Nat → Prop} {p ga : Nat} {lv : Value} {vs : Nat → Value} {s' : PS} (ho : Only S w w') (h : RepA w' (fun k => S k ∨ (w.heap.size ≤ k ∧ k < w'.heap.size)) p ga lv vs s') : Went w S p s' w' :=
  ⟨ho, ga, lv, vs, h⟩

theorem setCell_other {w : World} {a b : Addr} (h : a ≠ b) (v : Value) : (w.setCell a v).cell? b = w.cell? b := World.cell?_setCell_other w a b v h

set_option maxHeartbeats 1000000 in
theorem held_nil {S : Nat → Prop} {p ga : Nat} {lv : Value} {vs : Nat → Value} {s : PS} (i : Int) (w : World) (h : RepA w S p ga lv vs s) (hh : ¬ heldB s i) :
    Calls Try.prog 26 #[pp p, .int .i64 i] w fun e w' => e = .returned (.pointer none) ∧ w = w' := by
  have c0 := h.c0
  unfold pp
  by_cases h1 : i < 0
  · clear h hh
    go_enter Try.func26, Try.ntmps26
    go_wp2
    go_ret
    exact ⟨rfl, rfl⟩
  · by_cases h2 : (s.hs.length : Int) ≤ i
    · clear h hh
      generalize s.hs.length = n at *
      go_enter Try.func26, Try.ntmps26
      go_wp2
      go_ret
      exact ⟨rfl, rfl⟩
    · obtain ⟨k, rfl⟩ := Int.eq_ofNat_of_zero_le (show 0 ≤ i by omega)
      have hk : k < s.hs.length := by omega
      have ch := h.ch hk
      have h0 : s.hs.getD k 0 = 0 := by
        unfold heldB at hh
        simp only [Int.toNat_natCast] at hh
        omega
      rw [h0] at ch
      clear h hh h0
      generalize s.hs.length = n at *
      go_enter Try.func26, Try.ntmps26
      go_wp2
      go_ret
      exact ⟨rfl, rfl⟩

theorem held_cases {s : PS} {i : Int} (hh : heldB s i) : ∃ k : Nat, i = (k : Int) ∧ k < s.hs.length ∧ 0 < s.hs.getD k 0 ∧ hOf s i = s.hs.getD k 0 ∧ bOf s i = s.bs.getD k [] ∧ i.toNat = k := by
  obtain ⟨h1, h2, h3⟩ := hh
  obtain ⟨k, rfl⟩ := Int.eq_ofNat_of_zero_le h1
  exact ⟨k, rfl, by omega, by simpa using h3, by simp [hOf], by simp [bOf], by simp⟩

set_option maxHeartbeats 1000000 in
theorem take_any {S : Nat → Prop} {p : Nat} {s : PS} (w : World) (hR : Rep w S p s) (hln : ∀ k ∈ s.ln, k < s.hs.length) :
    Calls Try.prog 10 #[pp p] w fun e w' => e = .returned (.tuple #[.int .i64 (takeX s), .int .i64 (takeE s)]) ∧ Went w S p (takeS s) w' := by
  obtain ⟨ga, lv, vs, h⟩ := hR
  have c0 := h.c0
  have c1 := h.c1
  have hlo := h.lo
  unfold takeX takeE takeS
  unfold pp
  cases hl : s.ln with
  | nil =>
    rw [hl] at hlo
    obtain ⟨A, cap, rfl, -, -⟩ := hlo.len_
    have H := Lib.hid h
    clear h hlo hl hln
    go_enter Try.func10, Try.ntmps10
    go_wp2
    go_ret2
    exact ⟨rfl, Went.of (Only.refl _ _) H.out⟩
  | cons k t =>
    rw [hl] at hlo
    obtain ⟨g, off, cap, rfl, hnc, hcm, hg, hc, hfz⟩ := hlo.form (by simp)
    have hk : k < s.hs.length := hln k (by rw [hl]; simp)
    have htl := hlo.tail_ 1 (by simp)
    have c3 := hc 0 (by simp)
    simp only [List.map_cons, List.getElem?_cons_zero, nV, Nat.add_zero] at c3
    have ch := h.ch hk
    have c0' : ∀ x, (w.setCell ⟨p, 1, none⟩ x).cell? ⟨p, 0, none⟩ = some (.slice (some ⟨ga, 0, none⟩) s.hs.length s.hs.length) := fun x => (setCell_other (by simp) x).trans c0
    have ch' : ∀ x, (w.setCell ⟨p, 1, none⟩ x).cell? ⟨ga, k * 2 + 1, none⟩ = some (.int .i64 (s.hs.getD k 0 : Nat)) := fun x => (setCell_other (by simp [h.gap]) x).trans ch
    have f1 := h.fp 1
    have f2 := h.fa (k * 2 + 1)
    have i3 : (k : Int) < (s.hs.length : Int) := by omega
    have key : Hid (∀ lvv, Own w 3 1 lvv t.length (t.map nV) → (∀ kk, lvv.ownBlock = some kk → S kk) →
        Went w S p { s with hs := s.hs.set k 1, ln := t } ((w.setCell ⟨p, 1, none⟩ lvv).setCell ⟨ga, k * 2 + 1, none⟩ (.int .i64 1))) := by
      intro lvv h1 h2
      exact Went.of (((Only.refl S w).setCell (p := ⟨p, 1, none⟩) (fun _ => h.sp) _).setCell (p := ⟨ga, k * 2 + 1, none⟩) (fun _ => h.sa) _) ((h.setLine lvv t h1 h2).setHold k 1 hk)
    have hsg : Hid (S g) := h.sl g rfl
    have HT := Lib.hid htl
    clear h htl hlo hc hfz hln hl
    simp only [List.length_cons] at c1 hnc ⊢
    generalize s.hs.getD k 0 = m at *
    generalize hN : s.hs.length = n at c0 c0' i3 hk
    generalize hM : t.length = tl at c1 hnc
    by_cases hc1 : cap = 1
    · subst hc1
      go_enter Try.func10, Try.ntmps10
      go_wp2
      go_ret2
      have htl0 : tl = 0 := by omega
      have hto := HT.out
      rw [htl0] at hM
      have hto' : Own w 3 1 (.slice (some ⟨g, off, none⟩) 0 0) t.length (t.map nV) := by rw [hM]; simpa [hM] using hto
      exact ⟨rfl, key.out _ hto' (by intro kk hkk; simp [Value.ownBlock] at hkk; subst hkk; exact hsg.out)⟩
    · go_enter Try.func10, Try.ntmps10
      go_wp2
      go_ret2
      exact ⟨rfl, key.out _ (by have := HT.out; rw [if_neg hc1] at this; simpa [hM] using this) (by intro kk hkk; simp [Value.ownBlock] at hkk; subst hkk; exact hsg.out)⟩

set_option maxHeartbeats 1000000 in
theorem octets_any {S : Nat → Prop} {p : Nat} {s : PS} (i : Int) (w : World) (hR : Rep w S p s) :
    Calls Try.prog 12 #[pp p, .int .i64 i] w fun e w' => e = .returned (.string ⟨(octO s i).toArray⟩) ∧ w = w' := by
  obtain ⟨ga, lv, vs, h⟩ := hR
  unfold octO
  by_cases hh : heldB s i
  · rw [if_pos hh]
    obtain ⟨k, rfl, hk, h0, -, hb, -⟩ := held_cases hh
    rw [hb]
    have cb := h.cb hk
    have kb := conv_own (h.bo k hk)
    have HC := Lib.hid (held_some k w h hk h0)
    obtain ⟨A, cap, hv, -, -⟩ := (h.bo k hk).len_
    rw [hv] at cb kb
    clear h hh hb h0 hv
    generalize s.bs.getD k [] = b at *
    unfold pp
    go_enter Try.func12, Try.ntmps12
    go_wp2_with (go_at_call 26; refine HC.out.mono ?_; rintro e1 w1 ⟨rfl, rfl⟩)
    go_ret
    exact ⟨rfl, rfl⟩
  · rw [if_neg hh]
    have HC := Lib.hid (held_nil i w h hh)
    clear h hh
    unfold pp
    go_enter Try.func12, Try.ntmps12
    go_wp2_with (go_at_call 26; refine HC.out.mono ?_; rintro e1 w1 ⟨rfl, rfl⟩)
    go_ret
    exact ⟨rfl, rfl⟩

set_option maxHeartbeats 1000000 in
theorem holds_any {S : Nat → Prop} {p : Nat} {s : PS} (i : Int) (w : World) (hR : Rep w S p s) :
    Calls Try.prog 17 #[pp p, .int .i64 i] w fun e w' => e = .returned (.int .i64 (holdsO s i : Nat)) ∧ w = w' := by
  obtain ⟨ga, lv, vs, h⟩ := hR
  unfold holdsO
  by_cases hh : heldB s i
  · rw [if_pos hh]
    obtain ⟨k, rfl, hk, h0, hb, -, -⟩ := held_cases hh
    rw [hb]
    have ch := h.ch hk
    have HC := Lib.hid (held_some k w h hk h0)
    clear h hh hb h0
    generalize s.hs.getD k 0 = m at *
    unfold pp
    go_enter Try.func17, Try.ntmps17
    go_wp2_with (go_at_call 26; refine HC.out.mono ?_; rintro e1 w1 ⟨rfl, rfl⟩)
    go_ret
    exact ⟨rfl, rfl⟩
  · rw [if_neg hh]
    have HC := Lib.hid (held_nil i w h hh)
    clear h hh
    unfold pp
    go_enter Try.func17, Try.ntmps17
    go_wp2_with (go_at_call 26; refine HC.out.mono ?_; rintro e1 w1 ⟨rfl, rfl⟩)
    go_ret
    exact ⟨rfl, rfl⟩

set_option maxHeartbeats 1000000 in
theorem hold_any {S : Nat → Prop} {p : Nat} {s : PS} (i : Int) (w : World) (hR : Rep w S p s) (hm : hOf s i < 1000000) :
    Calls Try.prog 16 #[pp p, .int .i64 i] w fun e w' => e = .returned (.int .i64 (turnE s i)) ∧ Went w S p (holdS s i) w' := by
  obtain ⟨ga, lv, vs, h⟩ := hR
  unfold turnE holdS
  by_cases hh : heldB s i
  · rw [if_pos hh, if_pos hh]
    obtain ⟨k, rfl, hk, h0, hb, -, ht⟩ := held_cases hh
    rw [hb] at hm ⊢
    rw [ht]
    have ch := h.ch hk
    have f2 := h.fa (k * 2 + 1)
    have HC := Lib.hid (held_some k w h hk h0)
    have key : Hid (Went w S p { s with hs := s.hs.set k (s.hs.getD k 0 + 1) } (w.setCell ⟨ga, k * 2 + 1, none⟩ (.int .i64 ((s.hs.getD k 0 + 1 : Nat) : Int)))) :=
      Went.of ((Only.refl S w).setCell (p := ⟨ga, k * 2 + 1, none⟩) (fun _ => h.sa) _) (h.setHold k (s.hs.getD k 0 + 1) hk)
    clear h hh hb h0 ht
    generalize s.hs.getD k 0 = m at *
    unfold pp
    go_enter Try.func16, Try.ntmps16
    go_wp2_with (go_at_call 26; refine HC.out.mono ?_; rintro e1 w1 ⟨rfl, rfl⟩)
    go_ret
    exact ⟨rfl, by have := key.out; push_cast at this; exact this⟩
  · rw [if_neg hh, if_neg hh]
    have HC := Lib.hid (held_nil i w h hh)
    have H := Lib.hid h
    clear h hh
    unfold pp
    go_enter Try.func16, Try.ntmps16
    go_wp2_with (go_at_call 26; refine HC.out.mono ?_; rintro e1 w1 ⟨rfl, rfl⟩)
    go_ret
    exact ⟨rfl, Went.of (Only.refl _ _) H.out⟩
end Go.Proofs.Ytmebpalfjcejoaa
