/-
  The program's tree beside the document's, both beside a law's own memory ('TR'): what is asked of both; no condition beyond those that each theorem states.
-/
import Derived.Test.YtddklpphcfgooaaRefT3
namespace Go.Proofs.Ytddklpphcfgooaa
open Go.RowKit Go.Rb

/-- The program's tree at t in the state s', the document's at r in the state s: from block B on, apart, and not in T. -/
def Mid (B : Nat) (T : Nat → Prop) (w : World) (t r : Nat) (s' s : TS) : Prop :=
  B ≤ w.heap.size ∧ (∀ k, T k → k < w.heap.size) ∧ ∃ S1 S2, Rep w S1 t s' ∧ RefT w S2 r s ∧ (∀ k, S1 k → B ≤ k ∧ ¬ S2 k ∧ ¬ T k) ∧ ∀ k, S2 k → B ≤ k ∧ ¬ T k
def TR (B : Nat) (T : Nat → Prop) (w : World) (t r : Nat) (s : TS) : Prop := Tr s ∧ Mid B T w t r s s
theorem RefT.lt {w : World} {S : Nat → Prop} {r : Nat} {s : TS} (h : RefT w S r s) {k : Nat} (hk : S k) : k < w.heap.size := by
  obtain ⟨_, _, h⟩ := h; exact h.lt k hk
theorem Rep.lt {w : World} {S : Nat → Prop} {t : Nat} {s : TS} (h : Rep w S t s) {k : Nat} (hk : S k) : k < w.heap.size := by
  obtain ⟨_, _, h⟩ := h; exact h.lt k hk
theorem RefT.frame {w w' : World} {S T : Nat → Prop} {r : Nat} {s : TS} (h : RefT w S r s) (hb : Only T w w') (hd : ∀ k, S k → ¬ T k) : RefT w' S r s := by
  obtain ⟨a, b, h⟩ := h; exact ⟨a, b, h.frame hb hd⟩
theorem Rep.frame {w w' : World} {S T : Nat → Prop} {t : Nat} {s : TS} (h : Rep w S t s) (hb : Only T w w') (hd : ∀ k, S k → ¬ T k) : Rep w' S t s := by
  obtain ⟨a, b, h⟩ := h; exact ⟨a, b, h.frame hb hd⟩
section
variable {B t r : Nat} {T T' U : Nat → Prop} {w w' : World} {s s' : TS}
theorem Mid.frame (h : Mid B T w t r s' s) (hb : Only U w w') (hU : ∀ k, U k → T k ∨ w.heap.size ≤ k) (hT : ∀ k, T' k → (T k ∨ w.heap.size ≤ k) ∧ k < w'.heap.size) : Mid B T' w' t r s' s := by
  obtain ⟨hB, hTl, S1, S2, h1, h2, h3, h4⟩ := h
  have a1 : ∀ k, S1 k → ¬ U k := fun k hk hu => by
    rcases hU k hu with h | h
    · exact (h3 k hk).2.2 h
    · have := h1.lt hk; omega
  have a2 : ∀ k, S2 k → ¬ U k := fun k hk hu => by
    rcases hU k hu with h | h
    · exact (h4 k hk).2 h
    · have := h2.lt hk; omega
  refine ⟨Nat.le_trans hB hb.size, fun k hk => (hT k hk).2, S1, S2, h1.frame hb a1, h2.frame hb a2, fun k hk => ⟨(h3 k hk).1, (h3 k hk).2.1, fun ht => ?_⟩, fun k hk => ⟨(h4 k hk).1, fun ht => ?_⟩⟩
  · rcases (hT k ht).1 with h | h
    · exact (h3 k hk).2.2 h
    · have := h1.lt hk; omega
  · rcases (hT k ht).1 with h | h
    · exact (h4 k hk).2 h
    · have := h2.lt hk; omega
theorem Mid.below (h : Mid B T w t r s' s) (hb : Below w.heap.size w w') : Mid B T w' t r s' s :=
  h.frame (U := fun k => w.heap.size ≤ k) (Only.of_below hb) (fun _ hk => .inr hk) (fun k hk => ⟨.inl hk, Nat.lt_of_lt_of_le (h.2.1 k hk) hb.size⟩)
theorem TR.below (h : TR B T w t r s) (hb : Below w.heap.size w w') : TR B T w' t r s := ⟨h.1, h.2.below hb⟩
theorem TR.nn (h : TR B T w t r s) : s.n ≤ 256 := by
  obtain ⟨_, _, _, _, _, ⟨_, _, h⟩, _⟩ := h; exact h.nn
/-- The program's step. -/
theorem Mid.prog (h : Mid B T w t r s s) {f : FuncId} {args : Array Value} {P : Ending → TS → Prop}
    (hc : ∀ S, Rep w S t s → Calls Try.prog f args w fun e w' => ∃ s', P e s' ∧ Only S w w' ∧ ∃ S', (∀ q, S' q → S q ∨ w.heap.size ≤ q) ∧ Rep w' S' t s') :
    Calls Try.prog f args w fun e w' => ∃ s', P e s' ∧ Mid B T w' t r s' s ∧ Only (fun k => B ≤ k ∧ ¬ T k) w w' := by
  obtain ⟨hB, hTl, S1, S2, h1, h2, h3, h4⟩ := h
  refine (hc S1 h1).mono ?_
  rintro e w' ⟨s', hp, ho, S', hs, hr⟩
  refine ⟨s', hp, ⟨Nat.le_trans hB ho.size, fun k hk => Nat.lt_of_lt_of_le (hTl k hk) ho.size, S', S2, hr, h2.frame ho fun k hk hk1 => (h3 k hk1).2.1 hk, fun k hk => ?_, h4⟩, ho.mono fun k _ hk => ⟨(h3 k hk).1, (h3 k hk).2.2⟩⟩
  rcases hs k hk with h | h
  · exact h3 k h
  · exact ⟨Nat.le_trans hB h, fun h5 => by have := h2.lt h5; omega, fun ht => by have := hTl k ht; omega⟩
/-- The document's. -/
theorem Mid.doc (h : Mid B T w t r s' s) {f : FuncId} {args : Array Value} {P : Ending → Prop}
    (hc : ∀ S, RefT w S r s → Calls Try.prog f args w fun e w' => P e ∧ Only S w w' ∧ ∃ S', (∀ q, S' q → S q ∨ w.heap.size ≤ q) ∧ RefT w' S' r s') :
    Calls Try.prog f args w fun e w' => P e ∧ Mid B T w' t r s' s' ∧ Only (fun k => B ≤ k ∧ ¬ T k) w w' := by
  obtain ⟨hB, hTl, S1, S2, h1, h2, h3, h4⟩ := h
  refine (hc S2 h2).mono ?_
  rintro e w' ⟨hp, ho, S', hs, hr⟩
  refine ⟨hp, ⟨Nat.le_trans hB ho.size, fun k hk => Nat.lt_of_lt_of_le (hTl k hk) ho.size, S1, S', h1.frame ho fun k hk hk1 => (h3 k hk).2.1 hk1, hr, fun k hk => ⟨(h3 k hk).1, fun h5 => ?_, (h3 k hk).2.2⟩, fun k hk => ?_⟩, ho.mono fun k _ hk => ⟨(h4 k hk).1, (h4 k hk).2⟩⟩
  · rcases hs k h5 with h | h
    · exact (h3 k hk).2.1 h
    · have := h1.lt hk; omega
  · rcases hs k hk with h | h
    · exact h4 k h
    · exact ⟨Nat.le_trans hB h, fun ht => by have := hTl k ht; omega⟩
end

/-- What Add does. -/
def AddO (s : TS) (i x y : Int) (s' : TS) : Prop := (¬ thereB s i ∧ x = 0 ∧ y = 2 ∧ s' = s) ∨ (thereB s i ∧ ¬ s.n < 256 ∧ x = 0 ∧ y = 16 ∧ s' = s) ∨ (thereB s i ∧ s.n < 256 ∧ x = (s.n : Int) ∧ y = 0 ∧ s' = addS s i.toNat)
/-- What Cancel does. -/
def CanO (s : TS) (i c x y : Int) (s' : TS) : Prop := (¬ (thereB s i ∧ c ≠ 0) ∧ x = 0 ∧ y = 2 ∧ s' = s) ∨ (thereB s i ∧ c ≠ 0 ∧ ∃ (k : Nat) (ca' : List Int), x = (k : Int) ∧ y = 0 ∧ k + ca'.count 0 = s.ca.count 0 ∧ Mk (Und s.up i.toNat) c s.ca ca' ∧ s' = s.wca ca')
theorem AddO.tr {s s' : TS} {i x y : Int} (h : AddO s i x y s') (ht : Tr s) : Tr s' := by
  rcases h with ⟨_, _, _, rfl⟩ | ⟨_, _, _, _, rfl⟩ | ⟨⟨h1, h2⟩, _, _, _, rfl⟩
  · exact ht
  · exact ht
  · exact tr_add ht (by omega)
theorem CanO.tr {s s' : TS} {i c x y : Int} (h : CanO s i c x y s') (ht : Tr s) : Tr s' := by
  rcases h with ⟨_, _, _, rfl⟩ | ⟨_, hc, k, ca', _, _, _, hm, rfl⟩
  · exact ht
  · exact tr_mk ht hc hm
section
variable {B t r : Nat} {T : Nat → Prop} {w : World} {s s' : TS}
theorem add2 (h : TR B T w t r s) (i : Int) :
    Calls Try.prog 10 #[pp t, .int .i64 i] w fun e w' => ∃ s', (∃ x y, e = .returned (.tuple #[.int .i64 x, .int .i64 y]) ∧ AddO s i x y s') ∧ Mid B T w' t r s' s ∧ Only (fun k => B ≤ k ∧ ¬ T k) w w' := by
  refine h.2.prog (P := fun e s' => ∃ x y, e = .returned (.tuple #[.int .i64 x, .int .i64 y]) ∧ AddO s i x y s') fun S hR => ?_
  by_cases hi : thereB s i
  · by_cases hn : s.n < 256
    · exact (add_any i w hR hi hn (by have := h.1.kb i.toNat; omega)).mono fun e w' ⟨h1, h2, h3⟩ => ⟨_, ⟨_, _, h1, .inr (.inr ⟨hi, hn, rfl, rfl, rfl⟩)⟩, h2, h3⟩
    · exact (add_full i w hR hi hn).mono fun e w' ⟨h1, h2⟩ => by subst h2; exact ⟨s, ⟨_, _, h1, .inr (.inl ⟨hi, hn, rfl, rfl, rfl⟩)⟩, Only.refl _ _, S, fun q hq => .inl hq, hR⟩
  · exact (add_bad i w hR hi).mono fun e w' ⟨h1, h2⟩ => by subst h2; exact ⟨s, ⟨_, _, h1, .inl ⟨hi, rfl, rfl, rfl⟩⟩, Only.refl _ _, S, fun q hq => .inl hq, hR⟩
theorem radd2 (h : Mid B T w t r s' s) (ht : Tr s) {i x y : Int} (ho : AddO s i x y s') :
    Calls Try.prog 15 #[pp r, .int .i64 i] w fun e w' => e = .returned (.tuple #[.int .i64 x, .int .i64 y]) ∧ Mid B T w' t r s' s' ∧ Only (fun k => B ≤ k ∧ ¬ T k) w w' := by
  refine h.doc (P := fun e => e = .returned (.tuple #[.int .i64 x, .int .i64 y])) fun S hR => ?_
  rcases ho with ⟨hi, rfl, rfl, rfl⟩ | ⟨hi, hn, rfl, rfl, rfl⟩ | ⟨⟨h1, h2⟩, hn, rfl, rfl, rfl⟩
  · exact (rAdd_bad i w hR hi).mono fun e w' ⟨h1, h2⟩ => by subst h2; exact ⟨h1, Only.refl _ _, S, fun q hq => .inl hq, hR⟩
  · exact (rAdd_full i w hR hi hn).mono fun e w' ⟨h1, h2⟩ => by subst h2; exact ⟨h1, Only.refl _ _, S, fun q hq => .inl hq, hR⟩
  · obtain ⟨k, rfl⟩ := Int.eq_ofNat_of_zero_le h1
    rw [Int.toNat_natCast]
    exact (rAdd_any k w hR ht.cl (by omega) hn).mono fun e w' ⟨h1, h2, h3⟩ => ⟨h1, h2, h3⟩
theorem can2 (h : TR B T w t r s) (i c : Int) :
    Calls Try.prog 9 #[pp t, .int .i64 i, .int .i64 c] w fun e w' => ∃ s', (∃ x y, e = .returned (.tuple #[.int .i64 x, .int .i64 y]) ∧ CanO s i c x y s') ∧ Mid B T w' t r s' s ∧ Only (fun k => B ≤ k ∧ ¬ T k) w w' := by
  refine h.2.prog (P := fun e s' => ∃ x y, e = .returned (.tuple #[.int .i64 x, .int .i64 y]) ∧ CanO s i c x y s') fun S hR => ?_
  by_cases hi : thereB s i ∧ c ≠ 0
  · obtain ⟨⟨h1, h2⟩, hc⟩ := hi
    obtain ⟨k, rfl⟩ := Int.eq_ofNat_of_zero_le h1
    exact (cancel_any k c w hR h.1 (by omega) hc).mono fun e w' ⟨q, h1', ca', h3, h4, h5, h6, h7⟩ => ⟨s.wca ca', ⟨_, _, h1', .inr ⟨⟨h1, h2⟩, hc, q, ca', rfl, rfl, h3, h4, rfl⟩⟩, h5, S, fun q hq => .inl hq, h6⟩
  · exact (cancel_bad i c w hR hi).mono fun e w' ⟨h1, h2⟩ => by subst h2; exact ⟨s, ⟨_, _, h1, .inl ⟨hi, rfl, rfl, rfl⟩⟩, Only.refl _ _, S, fun q hq => .inl hq, hR⟩
theorem rcan2 (h : Mid B T w t r s' s) (ht : Tr s) (hs : s.n ≤ 256) {i c x y : Int} (ho : CanO s i c x y s') :
    Calls Try.prog 16 #[pp r, .int .i64 i, .int .i64 c] w fun e w' => e = .returned (.tuple #[.int .i64 x, .int .i64 y]) ∧ Mid B T w' t r s' s' ∧ Only (fun k => B ≤ k ∧ ¬ T k) w w' := by
  refine h.doc (P := fun e => e = .returned (.tuple #[.int .i64 x, .int .i64 y])) fun S hR => ?_
  rcases ho with ⟨hi, rfl, rfl, rfl⟩ | ⟨⟨h1, h2⟩, hc, q, ca', rfl, rfl, h3, h4, rfl⟩
  · exact (rCancel_bad i c w hR hi).mono fun e w' ⟨h1, h2⟩ => by subst h2; exact ⟨h1, Only.refl _ _, S, fun q hq => .inl hq, hR⟩
  · obtain ⟨k, rfl⟩ := Int.eq_ofNat_of_zero_le h1
    refine (rCancel_any k c w hR ht (by omega) hs hc).mono ?_
    rintro e w' ⟨q2, ca2, e1, e2, e3, e4, e5⟩
    obtain rfl : ca2 = ca' := e3.eq h4
    obtain rfl : q2 = q := by omega
    exact ⟨e1, e4, S, fun q hq => .inl hq, e5⟩
theorem new2 (w : World) (hB : B ≤ w.heap.size) : Calls Try.prog 8 #[] w fun e w' => ∃ t S, e = .returned (pp t) ∧ Below w.heap.size w w' ∧ Rep w' S t rootS ∧ ∀ q, S q → B ≤ q :=
  (new_any w).mono fun e w' ⟨t, S, h1, h2, h3, h4⟩ => ⟨t, S, h1, h2, h3, fun q hq => Nat.le_trans hB (h4 q hq)⟩
theorem rnew2 {S : Nat → Prop} (hB : B ≤ w.heap.size) (h : Rep w S t rootS) (hS : ∀ q, S q → B ≤ q) : Calls Try.prog 14 #[] w fun e w' => ∃ r, e = .returned (pp r) ∧ Below w.heap.size w w' ∧ TR B NoT w' t r rootS :=
  (rNew_any w).mono fun e w' ⟨r, S2, h1, h2, h3, h4⟩ => ⟨r, h1, h2, tr_root, Nat.le_trans hB h2.size, fun _ h => h.elim, S, S2, h.frame (Only.of_below h2) (fun k hk hk2 => by have := h.lt hk; omega), h3,
    fun k hk => ⟨hS k hk, fun h5 => by have := h4 k h5; have := h.lt hk; omega, fun h => h⟩, fun k hk => ⟨Nat.le_trans hB (h4 k hk), fun h => h⟩⟩
theorem TR.prep (h : TR B T w t r s) : ∃ S, Rep w S t s := by obtain ⟨_, _, _, S1, _, h, _⟩ := h; exact ⟨S1, h⟩
theorem TR.drep (h : TR B T w t r s) : ∃ S, RefT w S r s := by obtain ⟨_, _, _, _, S2, _, h, _⟩ := h; exact ⟨S2, h⟩
end
end Go.Proofs.Ytddklpphcfgooaa
