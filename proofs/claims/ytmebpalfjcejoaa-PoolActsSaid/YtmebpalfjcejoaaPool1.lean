/-
  The pool's state, how it lies in memory, and the contract of the pool's function 'held'; no condition beyond those that each theorem states.
-/
import Derived.Test.YtmebpalfjcejoaaBytes
import Derived.Test.YtmebpalfjcejoaaInts
namespace Go.Proofs.Ytmebpalfjcejoaa
open Go.RowKit Go.Rb

/-- How often each is held; its octets; the line of the free ones; the greatest size. -/
structure PS where
  hs : List Nat
  bs : List (List UInt8)
  ln : List Nat
  size : Nat
def nV (k : Nat) : Value := .int .i64 (k : Int)
def pp (p : Nat) : Value := .pointer (some ⟨p, 0, none⟩)

/-- The pool at p: its buffers at ga, its line lv, its buffers' octets vs; all in blocks of S. -/
structure RepA (w : World) (S : Nat → Prop) (p ga : Nat) (lv : Value) (vs : Nat → Value) (s : PS) : Prop where
  pb : Blk w p 63 #[.slice (some ⟨ga, 0, none⟩) s.hs.length s.hs.length, lv, nV s.size]
  ab : ∃ cs, Blk w ga 65 cs ∧ cs.size = s.hs.length * 2 ∧ ∀ i, i < s.hs.length → cs[i * 2]? = some (vs i) ∧ cs[i * 2 + 1]? = some (nV (s.hs.getD i 0))
  bl : s.bs.length = s.hs.length
  bo : ∀ i, i < s.hs.length → Own w 5 1 (vs i) (s.bs.getD i []).length ((s.bs.getD i []).map bV)
  lo : Own w 3 1 lv s.ln.length (s.ln.map nV)
  sp : S p
  sa : S ga
  sl : ∀ k, lv.ownBlock = some k → S k
  sb : ∀ i, i < s.hs.length → ∀ k, (vs i).ownBlock = some k → S k
  lt : ∀ k, S k → k < w.heap.size
  nn : s.hs.length ≤ 64
  nz : s.size ≤ 4096
def Rep (w : World) (S : Nat → Prop) (p : Nat) (s : PS) : Prop := ∃ ga lv vs, RepA w S p ga lv vs s

section
variable {w w' : World} {S S' T : Nat → Prop} {p ga : Nat} {lv : Value} {vs : Nat → Value} {s : PS}
theorem own_ne_blk {e t : TypeId} {sz n g : Nat} {v : Value} {xs : List Value} {cs : Array Value} (h : Own w e sz v n xs) (hb : Blk w g t cs) (hne : e ≠ t) : v.ownBlock ≠ some g := by
  intro hk
  rcases h.2 with ⟨rfl, _⟩ | ⟨g', off, cap, cur, rfl, hg, _⟩
  · simp [Value.ownBlock] at hk
  · have e1 : g' = g := by simpa [Value.ownBlock] using hk
    subst e1
    exact Blk.ne_ (t := _) (t' := _) hg hb hne rfl
theorem own_ne' {e1 e2 : TypeId} {s1 s2 n1 n2 : Nat} {v1 v2 : Value} {x1 x2 : List Value} (h1 : Own w e1 s1 v1 n1 x1) (h2 : Own w e2 s2 v2 n2 x2) (hne : e1 ≠ e2) :
    ∀ k, v1.ownBlock = some k → v2.ownBlock ≠ some k := by
  intro k hk hk2
  rcases h1.2 with ⟨rfl, _⟩ | ⟨g, off, cap, cur, rfl, hg, _⟩
  · simp [Value.ownBlock] at hk
  · have e1 : g = k := by simpa [Value.ownBlock] using hk
    subst e1
    exact own_ne_blk h2 (t := e1) (show Blk w g e1 cur from hg) (Ne.symm hne) hk2

theorem RepA.gap (h : RepA w S p ga lv vs s) : p ≠ ga := by
  obtain ⟨cs, hb, _⟩ := h.ab
  exact h.pb.ne_ hb (by decide)
theorem RepA.c0 (h : RepA w S p ga lv vs s) : w.cell? ⟨p, 0, none⟩ = some (.slice (some ⟨ga, 0, none⟩) s.hs.length s.hs.length) := by rw [h.pb.cell]; rfl
theorem RepA.c1 (h : RepA w S p ga lv vs s) : w.cell? ⟨p, 1, none⟩ = some lv := by rw [h.pb.cell]; rfl
theorem RepA.c2 (h : RepA w S p ga lv vs s) : w.cell? ⟨p, 2, none⟩ = some (.int .i64 (s.size : Int)) := by rw [h.pb.cell]; rfl
theorem RepA.cb (h : RepA w S p ga lv vs s) {i : Nat} (hi : i < s.hs.length) : w.cell? ⟨ga, i * 2, none⟩ = some (vs i) := by
  obtain ⟨cs, hb, _, hc⟩ := h.ab
  rw [hb.cell, (hc i hi).1]
theorem RepA.ch (h : RepA w S p ga lv vs s) {i : Nat} (hi : i < s.hs.length) : w.cell? ⟨ga, i * 2 + 1, none⟩ = some (.int .i64 (s.hs.getD i 0 : Nat)) := by
  obtain ⟨cs, hb, _, hc⟩ := h.ab
  rw [hb.cell, (hc i hi).2]; rfl
theorem RepA.fp (h : RepA w S p ga lv vs s) (i : Nat) : w.frozen? ⟨p, i, none⟩ = false := h.pb.frozen i
theorem RepA.fa (h : RepA w S p ga lv vs s) (i : Nat) : w.frozen? ⟨ga, i, none⟩ = false := by
  obtain ⟨cs, hb, _⟩ := h.ab
  exact hb.frozen i

/-- What lies elsewhere may change. -/
theorem RepA.frame (h : RepA w S p ga lv vs s) (hb : Only T w w') (hd : ∀ k, S k → ¬ T k) : RepA w' S p ga lv vs s := by
  obtain ⟨cs, hcb, hcs⟩ := h.ab
  exact ⟨h.pb.only hb (hd _ h.sp), ⟨cs, hcb.only hb (hd _ h.sa), hcs⟩, h.bl, fun i hi => (h.bo i hi).only hb fun k hk => hd _ (h.sb i hi k hk), h.lo.only hb fun k hk => hd _ (h.sl k hk),
    h.sp, h.sa, h.sl, h.sb, fun k hk => Nat.lt_of_lt_of_le (h.lt k hk) hb.size, h.nn, h.nz⟩
theorem RepA.mono (h : RepA w S p ga lv vs s) (hs : ∀ k, S k → S' k) (hl : ∀ k, S' k → k < w.heap.size) : RepA w S' p ga lv vs s :=
  ⟨h.pb, h.ab, h.bl, h.bo, h.lo, hs _ h.sp, hs _ h.sa, fun k hk => hs _ (h.sl k hk), fun i hi k hk => hs _ (h.sb i hi k hk), hl, h.nn, h.nz⟩

theorem RepA.setLine (h : RepA w S p ga lv vs s) (lv' : Value) (ln' : List Nat) (ho : Own w 3 1 lv' ln'.length (ln'.map nV)) (hs : ∀ k, lv'.ownBlock = some k → S k) :
    RepA (w.setCell ⟨p, 1, none⟩ lv') S p ga lv' vs { s with ln := ln' } := by
  obtain ⟨cs, hcb, hcs⟩ := h.ab
  exact ⟨by simpa using h.pb.set_ 1 lv', ⟨cs, hcb.far (p := ⟨p, 1, none⟩) (Ne.symm h.gap) lv', hcs⟩, h.bl, fun i hi => (h.bo i hi).setCell (p := ⟨p, 1, none⟩) (own_ne_blk (h.bo i hi) h.pb (by decide)) _,
    ho.setCell (p := ⟨p, 1, none⟩) (own_ne_blk ho h.pb (by decide)) _, h.sp, h.sa, hs, h.sb, fun k hk => by simpa [World.setCell] using h.lt k hk, h.nn, h.nz⟩
theorem RepA.setHold (h : RepA w S p ga lv vs s) (i m : Nat) (hi : i < s.hs.length) :
    RepA (w.setCell ⟨ga, i * 2 + 1, none⟩ (.int .i64 (m : Int))) S p ga lv vs { s with hs := s.hs.set i m } := by
  obtain ⟨cs, hcb, hcl, hcs⟩ := h.ab
  refine ⟨by simpa using h.pb.far (p := ⟨ga, i * 2 + 1, none⟩) h.gap _, ⟨_, hcb.set_ (i * 2 + 1) _, by simpa using hcl, fun j hj => ?_⟩, by simpa using h.bl, fun j hj => ?_, ?_, h.sp, h.sa, h.sl, fun j hj => h.sb j (by simpa using hj), fun k hk => by simpa [World.setCell] using h.lt k hk, by simpa using h.nn, h.nz⟩
  · have hj' : j < s.hs.length := by simpa using hj
    obtain ⟨h1, h2⟩ := hcs j hj'
    refine ⟨?_, ?_⟩
    · rw [Array.getElem?_setIfInBounds_ne (by omega)]; exact h1
    · by_cases hij : i = j
      · subst hij
        rw [Array.getElem?_setIfInBounds_self_of_lt (by omega)]
        simp [List.getD, hi, nV]
      · rw [Array.getElem?_setIfInBounds_ne (by omega), h2]
        simp [List.getD, hij]
  · have hj' : j < s.hs.length := by simpa using hj
    exact (h.bo j hj').setCell (p := ⟨ga, i * 2 + 1, none⟩) (own_ne_blk (h.bo j hj') hcb (by decide)) _
  · exact h.lo.setCell (p := ⟨ga, i * 2 + 1, none⟩) (own_ne_blk h.lo hcb (by decide)) _
theorem RepA.setBuf (h : RepA w S p ga lv vs s) (i : Nat) (hi : i < s.hs.length) (v : Value) (b : List UInt8) (ho : Own w 5 1 v b.length (b.map bV)) (hs : ∀ k, v.ownBlock = some k → S k) :
    RepA (w.setCell ⟨ga, i * 2, none⟩ v) S p ga lv (fun j => if j = i then v else vs j) { s with bs := s.bs.set i b } := by
  obtain ⟨cs, hcb, hcl, hcs⟩ := h.ab
  refine ⟨by simpa using h.pb.far (p := ⟨ga, i * 2, none⟩) h.gap _, ⟨_, hcb.set_ (i * 2) _, by simpa using hcl, fun j hj => ?_⟩, by simpa using h.bl, fun j hj => ?_, ?_, h.sp, h.sa, h.sl, fun j hj k hk => ?_, fun k hk => by simpa [World.setCell] using h.lt k hk, h.nn, h.nz⟩
  · obtain ⟨h1, h2⟩ := hcs j hj
    refine ⟨?_, ?_⟩
    · by_cases hij : j = i
      · subst hij
        rw [Array.getElem?_setIfInBounds_self_of_lt (by omega), if_pos rfl]
      · rw [Array.getElem?_setIfInBounds_ne (by omega), h1, if_neg hij]
    · rw [Array.getElem?_setIfInBounds_ne (by omega)]; exact h2
  · by_cases hij : j = i
    · subst hij
      have hb : j < s.bs.length := by rw [h.bl]; exact hi
      have e : (s.bs.set j b).getD j [] = b := by simp [List.getD, hb]
      simp only [if_pos, e]
      exact ho.setCell (p := ⟨ga, j * 2, none⟩) (own_ne_blk ho hcb (by decide)) _
    · have e : (s.bs.set i b).getD j [] = s.bs.getD j [] := by simp [List.getD, Ne.symm hij]
      simp only [if_neg hij, e]
      exact (h.bo j hj).setCell (p := ⟨ga, i * 2, none⟩) (own_ne_blk (h.bo j hj) hcb (by decide)) _
  · exact h.lo.setCell (p := ⟨ga, i * 2, none⟩) (own_ne_blk h.lo hcb (by decide)) _
  · by_cases hij : j = i
    · simp only [if_pos hij] at hk; exact hs k hk
    · simp only [if_neg hij] at hk; exact h.sb j hj k hk
end

set_option maxHeartbeats 1000000 in
theorem held_some {S : Nat → Prop} {p ga : Nat} {lv : Value} {vs : Nat → Value} {s : PS} (k : Nat) (w : World) (h : RepA w S p ga lv vs s) (hk : k < s.hs.length) (h0 : 0 < s.hs.getD k 0) :
    Calls Try.prog 26 #[pp p, .int .i64 (k : Int)] w fun e w' => e = .returned (.pointer (some ⟨ga, k * 2, none⟩)) ∧ w = w' := by
  have c0 := h.c0
  have ch := h.ch hk
  have i1 : ¬ (k : Int) < 0 := by omega
  have i2 : ¬ (s.hs.length : Int) ≤ (k : Int) := by omega
  have i3 : (k : Int) < (s.hs.length : Int) := by omega
  generalize s.hs.getD k 0 = m at *
  generalize s.hs.length = n at *
  have i4 : ((m : Int) == 0) = false := by rw [beq_eq_false_iff_ne]; omega
  clear h
  unfold pp
  go_enter Try.func26, Try.ntmps26
  go_wp2
  go_ret
  exact ⟨by simp, rfl⟩
end Go.Proofs.Ytmebpalfjcejoaa
