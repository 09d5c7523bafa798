/-
  The document's example: awake returns true; no condition beyond those that each theorem states.
-/
import Derived.Test.YtfndppjicneliaaPipe7
namespace Go.Proofs.Ytfndppjicneliaa
open Go.RowKit Go.Rb
attribute [local irreducible] Go.wpQuiet

theorem itN_v (n : Int) : (itN n).v = .agg #[.int .i64 n, .int .i64 0, .int .i64 0, .int .i64 0, .string ⟨#[]⟩, .slice none 0 0, .int .i64 0] := rfl
/-- A pipe of the call's own: its blocks lie at B or above, and apart from T. -/
structure In (B : Nat) (T : Nat → Prop) (w : World) (p : Nat) (s : PS) : Prop where
  ex : ∃ S, Rep w S p s ∧ ∀ k, S k → B ≤ k ∧ ¬ T k
  hT : ∀ k, T k → k < w.heap.size
  hB : B ≤ w.heap.size
theorem In.new {w w' : World} {n : Nat} (h : Rep w' (fun k => k = w.heap.size) w.heap.size (newS n)) (hb : w'.heap.size = w.heap.size + 1) {B : Nat} (hB : B ≤ w.heap.size) : In B (fun _ => False) w' w.heap.size (newS n) :=
  ⟨⟨_, h, fun k hk => ⟨by have hk : k = w.heap.size := hk; omega, fun h => h⟩⟩, fun k hk => absurd hk (fun h => h), by omega⟩
theorem In.more {B : Nat} {T T' : Nat → Prop} {w w' : World} {p : Nat} {s : PS} (h : In B T w p s) (hb : Below w.heap.size w w') (ht : ∀ k, T' k → T k ∨ w.heap.size ≤ k) (hl : ∀ k, T' k → k < w'.heap.size) : In B T' w' p s := by
  obtain ⟨S, hr, hs⟩ := h.ex
  exact ⟨⟨S, hr.below hb, fun k hk => ⟨(hs k hk).1, fun hh => by
    rcases ht k hh with h | h
    · exact (hs k hk).2 h
    · have := hr.lt hk; omega⟩⟩, hl, Nat.le_trans h.hB hb.size⟩
theorem In.below {B : Nat} {T : Nat → Prop} {w w' : World} {p : Nat} {s : PS} (h : In B T w p s) (hb : Below w.heap.size w w') : In B T w' p s :=
  h.more hb (fun _ => .inl) fun k hk => Nat.lt_of_lt_of_le (h.hT k hk) hb.size
/-- What a call does, as the caller sees it. -/
structure Did (B : Nat) (T : Nat → Prop) (w : World) (p : Nat) (s' : PS) (w' : World) : Prop where
  bel : Below B w w'
  kept : ∀ k, T k → w'.heap[k]? = w.heap[k]?
  inn : In B T w' p s'
theorem Did.blk {B : Nat} {T : Nat → Prop} {w w' : World} {p g : Nat} {s' : PS} {t : TypeId} {cs : Array Value} (h : Did B T w p s' w') (hb : Blk w g t cs) (hg : T g) : Blk w' g t cs := (h.kept g hg).trans hb
theorem In.went {B : Nat} {T : Nat → Prop} {w w' : World} {p : Nat} {s s' : PS} {S : Nat → Prop} (hB : B ≤ w.heap.size) (hT : ∀ k, T k → k < w.heap.size) (hs : ∀ k, S k → B ≤ k ∧ ¬ T k) (h : Went w S p s' w') : Did B T w p s' w' := by
  refine ⟨h.1.below hB fun k hk => (hs k hk).1, fun k hk => h.1.block k (hT k hk) fun hh => (hs k hh).2 hk, ⟨_, h.2, fun k hk => ?_⟩, fun k hk => Nat.lt_of_lt_of_le (hT k hk) h.1.size, Nat.le_trans hB h.1.size⟩
  rcases hk with hk | hk
  · exact hs k hk
  · exact ⟨by omega, fun hh => by have := hT k hh; omega⟩
theorem In.went0 {B : Nat} {T : Nat → Prop} {w w' : World} {p : Nat} {s : PS} (h : In B T w p s) (hb : Below w.heap.size w w') : Did B T w p s w' :=
  ⟨hb.mono h.hB, fun k hk => hb.block k (h.hT k hk), h.below hb⟩
section
variable {B : Nat} {T : Nat → Prop} {w : World} {p : Nat} {s : PS}
theorem In.send (h : In B T w p s) (who : Int) (x : It) (h1 : s.inn.length ≤ 1000000) (h2 : s.ofs.length ≤ 1000000) (h3 : -1000000 ≤ s.sent ∧ s.sent ≤ 1000000) :
    Calls Try.prog 9 #[pp p, .int .i64 who, x.v] w fun e w' => e = .returned (.tuple #[.bool (sendV s who), .int .i64 (sendE s who)]) ∧ Did B T w p (sendS s who x) w' := by
  obtain ⟨S, hr, hs⟩ := h.ex
  exact (send_any who x w hr h1 h2 h3).mono fun e w' ⟨he, hw⟩ => ⟨he, In.went (s := s) h.hB h.hT hs hw⟩
theorem In.take (h : In B T w p s) (h1 : s.inn.length ≤ 1000000) :
    Calls Try.prog 10 #[pp p] w fun e w' => e = .returned (.tuple #[(takeX s).v, .int .i64 (takeE s)]) ∧ Did B T w p (takeS s) w' := by
  obtain ⟨S, hr, hs⟩ := h.ex
  exact (take_any w hr h1).mono fun e w' ⟨he, hw⟩ => ⟨he, In.went (s := s) h.hB h.hT hs hw⟩
theorem In.withdraw (h : In B T w p s) (who : Int) (h2 : s.ofs.length ≤ 1000000) (h3 : -1000000 ≤ s.sent ∧ s.sent ≤ 1000000) :
    Calls Try.prog 13 #[pp p, .int .i64 who] w fun e w' => e = .returned (.bool (waitsO s who)) ∧ Did B T w p (wdS s who) w' := by
  obtain ⟨S, hr, hs⟩ := h.ex
  exact (withdraw_any who w hr h2 h3).mono fun e w' ⟨he, hw⟩ => ⟨he, In.went (s := s) h.hB h.hT hs hw⟩
theorem In.close (h : In B T w p s) :
    Calls Try.prog 15 #[pp p] w fun e w' => e = .returned (.int .i64 (closeE s)) ∧ Did B T w p (closeS s) w' := by
  obtain ⟨S, hr, hs⟩ := h.ex
  exact (close_any w hr).mono fun e w' ⟨he, hw⟩ => ⟨he, In.went (s := s) h.hB h.hT hs hw⟩
theorem In.waits (h : In B T w p s) (who : Int) (h2 : s.ofs.length ≤ 1000000) :
    Calls Try.prog 14 #[pp p, .int .i64 who] w fun e w' => e = .returned (.bool (waitsO s who)) ∧ Did B T w p s w' := by
  obtain ⟨S, hr, hs⟩ := h.ex
  exact (waits_any who w hr h2).mono fun e w' ⟨he, hb⟩ => ⟨he, h.went0 hb⟩
theorem In.items (h : In B T w p s) (h1 : s.inn.length ≤ 1000000) (h2 : s.ofs.length ≤ 1000000) :
    Calls Try.prog 11 #[pp p] w fun e w' => ∃ v, e = .returned v ∧ Own w' 34 7 v (s.inn.length + s.ofs.length) (ics (itemsO s)) ∧ (∀ k, v.ownBlock = some k → w.heap.size ≤ k) ∧ Did B T w p s w' ∧ Below w.heap.size w w' := by
  obtain ⟨S, hr, hs⟩ := h.ex
  exact (items_any w hr h1 h2).mono fun e w' ⟨v, he, ho, hb, hk⟩ => ⟨v, he, ho, hk, h.went0 hb, hb⟩
theorem In.ready (h : In B T w p s) (h1 : s.inn.length ≤ 1000000) (h2 : s.ofs.length ≤ 1000000) : Calls Try.prog 16 #[pp p] w fun e w' => e = .returned (.bool (readyO s)) ∧ ∃ q, w' = w.drewN q := by
  obtain ⟨S, hr, hs⟩ := h.ex
  exact ready_any w hr h1 h2
theorem In.closed (h : In B T w p s) : Calls Try.prog 17 #[pp p] w fun e w' => e = .returned (.bool s.cl) ∧ w = w' := by
  obtain ⟨S, hr, hs⟩ := h.ex
  exact closed_any w hr
theorem In.sent (h : In B T w p s) : Calls Try.prog 12 #[pp p] w fun e w' => e = .returned (.int .i64 s.sent) ∧ w = w' := by
  obtain ⟨S, hr, hs⟩ := h.ex
  exact sent_any w hr
end
set_option maxRecDepth 20000 in
set_option maxHeartbeats 4000000 in
theorem awake_any (w : World) : Calls Try.prog 7 #[] w fun e w' => e = .returned (.bool true) ∧ Below w.heap.size w w' := by
  have HN := Lib.hid (new_ok 1 w (by omega))
  unfold pp at HN
  go_enter Try.func7, Try.ntmps7
  go_wp2_with fail
  refine HN.out.mono ?_
  rintro e1 w1 ⟨rfl, hb1, hr1, hs1⟩
  have HB1 := Lib.hid hb1
  have HI1 := Lib.hid (In.new (B := w.heap.size) hr1 hs1 (Nat.le_refl _))
  have HC := Lib.hid (HI1.out.send 1 (itN 1) (by simp [newS]) (by simp [newS]) (by simp [newS]))
  clear hb1 hr1 hs1
  rw [itN_v] at HC
  unfold pp at HC
  go_wp2_with fail
  refine HC.out.mono ?_
  rintro e2 w2 ⟨rfl, hd2⟩
  have HB2 := Lib.hid (HB1.out.trans hd2.bel)
  obtain ⟨s1, hs1⟩ : ∃ s1, sendS (newS 1) 1 (itN 1) = s1 := ⟨_, rfl⟩
  have HS1 := Lib.hid hs1
  have HC2 := Lib.hid (hd2.inn.send 2 (itN 2) (by decide) (by decide) (by decide))
  rw [hs1, itN_v] at HC2
  rw [show sendV (newS 1) 1 = true from by decide, show sendE (newS 1) 1 = 0 from by decide]
  rw [show sendV s1 2 = false from by rw [← hs1]; decide, show sendE s1 2 = 0 from by rw [← hs1]; decide] at HC2
  clear hd2 hs1
  unfold pp at HC2
  go_wp2_with fail
  refine HC2.out.mono ?_
  rintro e3 w3 ⟨rfl, hd3⟩
  have HB3 := Lib.hid (HB2.out.trans hd3.bel)
  obtain ⟨s2, hs2⟩ : ∃ s2, sendS s1 2 (itN 2) = s2 := ⟨_, rfl⟩
  rw [hs2] at hd3
  have hs2' : s2 = ⟨1, [itN 1], [(2, itN 2)], false, 2⟩ := by rw [← hs2, ← HS1.out]; rfl
  subst hs2'
  have HC3 := Lib.hid (hd3.inn.take (by decide))
  rw [show takeX (⟨1, [itN 1], [(2, itN 2)], false, 2⟩ : PS) = itN 1 from rfl, show takeE (⟨1, [itN 1], [(2, itN 2)], false, 2⟩ : PS) = 0 from rfl, show takeS (⟨1, [itN 1], [(2, itN 2)], false, 2⟩ : PS) = ⟨1, [itN 2], [], false, 2⟩ from rfl, itN_v] at HC3
  clear hd3 hs2 HS1
  unfold pp at HC3
  go_wp2_with fail
  refine HC3.out.mono ?_
  rintro e4 w4 ⟨rfl, hd4⟩
  have HB4 := Lib.hid (HB3.out.trans hd4.bel)
  have HI4 := Lib.hid (hd4.inn.more (T' := fun k => k = w4.heap.size) (below_al (Below.refl _ w4) (.cells #[.int .i64 1, .int .i64 0, .int .i64 0, .int .i64 0, .string ⟨#[]⟩, .slice none 0 0, .int .i64 0] 34)) (fun k hk => .inr (by have hk : k = w4.heap.size := hk; omega)) (fun k hk => by have hk : k = w4.heap.size := hk; simp; omega))
  have HB4' := Lib.hid (HB4.out.alloc HB4.out.size (.cells #[.int .i64 1, .int .i64 0, .int .i64 0, .int .i64 0, .string ⟨#[]⟩, .slice none 0 0, .int .i64 0] 34))
  have HK4 := Lib.hid (Blk.new w4 34 #[.int .i64 1, .int .i64 0, .int .i64 0, .int .i64 0, .string ⟨#[]⟩, .slice none 0 0, .int .i64 0])
  have HW5 := Lib.hid (HI4.out.waits 2 (by decide))
  rw [show waitsO (⟨1, [itN 2], [], false, 2⟩ : PS) 2 = false from by decide] at HW5
  unfold pp at HW5
  clear hd4
  go_wp2_with fail
  refine HW5.out.mono ?_
  rintro e5 w5 ⟨rfl, hd5⟩
  have HB5 := Lib.hid (HB4'.out.trans hd5.bel)
  have HK5 := Lib.hid (hd5.blk HK4.out rfl)
  have HC5 := Lib.hid (hd5.inn.take (by decide))
  rw [show takeX (⟨1, [itN 2], [], false, 2⟩ : PS) = itN 2 from rfl, show takeE (⟨1, [itN 2], [], false, 2⟩ : PS) = 0 from rfl, itN_v] at HC5
  clear hd5
  unfold pp at HC5
  go_wp2_with fail
  refine HC5.out.mono ?_
  rintro e6 w6 ⟨rfl, hd6⟩
  have HB6 := Lib.hid (HB5.out.trans hd6.bel)
  have hk6 := hd6.blk HK5.out rfl
  have c0 : w6.cell? ⟨w4.heap.size, 0, none⟩ = some (.int .i64 1) := hk6.cell 0
  have hl6 := hk6.lt
  clear hd6 hk6
  go_wp2_with fail
  go_ret
  exact ⟨rfl, HB6.out.alloc HB6.out.size _⟩
end Go.Proofs.Ytfndppjicneliaa
