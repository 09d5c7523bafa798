/-
  The pool beside a law's own memory ('In'), and the contract of reedbedlaw06.awake: it returns true; no condition beyond those that each theorem states.
-/
import Derived.Test.YtmebpalfjcejoaaPool5
namespace Go.Proofs.Ytmebpalfjcejoaa
open Go.RowKit Go.Rb

theorem newI_own {w w' : World} {v : Value} {zs : List Int} (h : NewI w w' v zs) : ∃ A c, v = .slice A zs.length c ∧ Rd w' w'.heap.size 1 A zs.length (zs.map iV) := by
  obtain ⟨h1, _, _⟩ := h
  obtain ⟨A, c, rfl, hr, _⟩ := Own.rdI h1
  exact ⟨A, c, rfl, hr⟩

/-- A pool that lies from block B on, and not in T. -/
def In (B : Nat) (T : Nat → Prop) (w : World) (p : Nat) (s : PS) : Prop := B ≤ w.heap.size ∧ (∀ k, T k → k < w.heap.size) ∧ ∃ S, Rep w S p s ∧ ∀ k, S k → B ≤ k ∧ ¬ T k
/-- What a call has done to it. -/
def Did (B : Nat) (T : Nat → Prop) (w : World) (p : Nat) (s' : PS) (w' : World) : Prop := In B T w' p s' ∧ Only (fun k => B ≤ k ∧ ¬ T k) w w'
def NoT : Nat → Prop := fun _ => False

section
variable {B p : Nat} {T T' U : Nat → Prop} {w w' : World} {s s' : PS}
theorem In.frame (h : In B T w p s) (hb : Only U w w') (hU : ∀ k, U k → T k ∨ w.heap.size ≤ k) (hT : ∀ k, T' k → (T k ∨ w.heap.size ≤ k) ∧ k < w'.heap.size) : In B T' w' p s := by
  obtain ⟨hB, hTl, S, ⟨ga, lv, vs, hR⟩, hS⟩ := h
  refine ⟨Nat.le_trans hB hb.size, fun k hk => (hT k hk).2, S, ⟨ga, lv, vs, hR.frame hb fun k hk hu => ?_⟩, fun k hk => ⟨(hS k hk).1, fun ht => ?_⟩⟩
  · rcases hU k hu with h | h
    · exact (hS k hk).2 h
    · have := hR.lt k hk; omega
  · rcases (hT k ht).1 with h | h
    · exact (hS k hk).2 h
    · have := hR.lt k hk; omega
theorem In.below (h : In B T w p s) (hb : Below w.heap.size w w') : In B T w' p s :=
  h.frame (U := fun k => w.heap.size ≤ k) (Only.of_below hb) (fun _ hk => .inr hk) (fun k hk => ⟨.inl hk, Nat.lt_of_lt_of_le (h.2.1 k hk) hb.size⟩)
theorem In.drewN (h : In B T w p s) (q : Nat) : In B T (w.drewN q) p s := h.below (below_drewN (Below.refl _ w) q)
theorem In.went {S : Nat → Prop} (h : In B T w p s) (hS : ∀ k, S k → B ≤ k ∧ ¬ T k) (hw : Went w S p s' w') : Did B T w p s' w' := by
  obtain ⟨hB, hT, -⟩ := h
  obtain ⟨ho, hR⟩ := hw
  refine ⟨⟨Nat.le_trans hB ho.size, fun k hk => Nat.lt_of_lt_of_le (hT k hk) ho.size, _, hR, fun k hk => ?_⟩, ho.mono fun k _ hk => hS k hk⟩
  rcases hk with hk | hk
  · exact hS k hk
  · exact ⟨Nat.le_trans hB hk.1, fun ht => by have := hT k ht; omega⟩
theorem Did.below (h : Did B T w p s' w') (hB : B ≤ w.heap.size) : Below B w w' := h.2.below hB fun _ hk => hk.1

theorem In.calls {f : FuncId} {args : Array Value} {e0 : Ending} (h : In B T w p s) (hc : ∀ S, Rep w S p s → Calls Try.prog f args w fun e w' => e = e0 ∧ Went w S p s' w') :
    Calls Try.prog f args w fun e w' => e = e0 ∧ Did B T w p s' w' := by
  obtain ⟨S, hR, hS⟩ := h.2.2
  exact (hc S hR).mono fun e w' ⟨h1, h2⟩ => ⟨h1, h.went hS h2⟩

theorem take_in (h : In B T w p s) (hln : ∀ k ∈ s.ln, k < s.hs.length) :
    Calls Try.prog 10 #[pp p] w fun e w' => e = .returned (.tuple #[.int .i64 (takeX s), .int .i64 (takeE s)]) ∧ Did B T w p (takeS s) w' := h.calls fun S hR => take_any w hR hln
theorem drop_in (i : Int) (h : In B T w p s) (hm : hOf s i < 1000000) (hlen : s.ln.length < 1000000) :
    Calls Try.prog 11 #[pp p, .int .i64 i] w fun e w' => e = .returned (.int .i64 (turnE s i)) ∧ Did B T w p (dropS s i) w' := h.calls fun S hR => drop_any i w hR hm hlen
theorem hold_in (i : Int) (h : In B T w p s) (hm : hOf s i < 1000000) :
    Calls Try.prog 16 #[pp p, .int .i64 i] w fun e w' => e = .returned (.int .i64 (turnE s i)) ∧ Did B T w p (holdS s i) w' := h.calls fun S hR => hold_any i w hR hm
theorem fill_in (i : Int) (A : Option Addr) (n c B' : Nat) (b : List UInt8) (h : In B T w p s) (hr : Rd w B' 1 A n (b.map bV)) (hB : B' ≤ w.heap.size) :
    Calls Try.prog 13 #[pp p, .int .i64 i, .slice A n c] w fun e w' => e = .returned (.int .i64 (fillE s i b)) ∧ Did B T w p (fillS s i b) w' := h.calls fun S hR => fill_any i A n c B' b w hR hr hB
theorem octets_in (i : Int) (h : In B T w p s) : Calls Try.prog 12 #[pp p, .int .i64 i] w fun e w' => e = .returned (.string ⟨(octO s i).toArray⟩) ∧ w = w' := by
  obtain ⟨S, hR, hS⟩ := h.2.2; exact octets_any i w hR
theorem holds_in (i : Int) (h : In B T w p s) : Calls Try.prog 17 #[pp p, .int .i64 i] w fun e w' => e = .returned (.int .i64 (holdsO s i : Nat)) ∧ w = w' := by
  obtain ⟨S, hR, hS⟩ := h.2.2; exact holds_any i w hR
theorem view_in (i f t : Int) (h : In B T w p s) (hz : (bOf s i).length ≤ 1000000) :
    Calls Try.prog 18 #[pp p, .int .i64 i, .int .i64 f, .int .i64 t] w fun e w' => e = .returned (.tuple #[.string ⟨(viewO s i f t).toArray⟩, .int .i64 (viewE s i f t)]) ∧ w = w' := by
  obtain ⟨S, hR, hS⟩ := h.2.2; exact view_any i f t w hR hz
theorem free_in (h : In B T w p s) (hm : s.ln.length ≤ 1000000) : Calls Try.prog 14 #[pp p] w (RetNewI w (s.ln.map (fun k : Nat => (k : Int)))) := by
  obtain ⟨S, hR, hS⟩ := h.2.2; exact free_any w hR hm
theorem bytes_in (h : In B T w p s) (hb : ∀ i, (s.bs.getD i []).length ≤ 5000) :
    Calls Try.prog 15 #[pp p] w fun e w' => e = .returned (.int .i64 (bytesO s : Nat)) ∧ Below w.heap.size w w' := by
  obtain ⟨S, hR, hS⟩ := h.2.2; exact bytes_any w hR hb
theorem new_in (n z : Nat) (w : World) (T : Nat → Prop) (hT : ∀ k, T k → k < w.heap.size) (h1 : 1 ≤ n) (h2 : n ≤ 64) (h3 : 1 ≤ z) (h4 : z ≤ 4096) (hB : B ≤ w.heap.size) :
    Calls Try.prog 9 #[.int .i64 (n : Int), .int .i64 (z : Int)] w fun e w' => ∃ p, e = .returned (.tuple #[pp p, .int .i64 0]) ∧ Below w.heap.size w w' ∧ In B T w' p (newS n z) :=
  (new_ok n z w h1 h2 h3 h4).mono fun e w' ⟨p, S, he, hb, hR, hS⟩ => ⟨p, he, hb, Nat.le_trans hB hb.size, fun k hk => Nat.lt_of_lt_of_le (hT k hk) hb.size, S, hR, fun k hk => ⟨Nat.le_trans hB (hS k hk), fun ht => by have := hT k ht; have := hS k hk; omega⟩⟩
end

theorem In.push {B p n off c g : Nat} {w w' : World} {l : Value} {s : PS} (h : In B (fun q => l.ownBlock = some q) w p s) (o : Obj) (hg : (w.alloc o).grownBy w' l.ownBlock)
    (hat : l.ownBlock = some g ∨ g = (w.alloc o).heap.size) (hgl : g < w'.heap.size) : In B (fun q => (Value.slice (some ⟨g, off, none⟩) n c).ownBlock = some q) w' p s := by
  refine h.frame (U := fun q => l.ownBlock = some q ∨ w.heap.size ≤ q) ?_ (fun q hq => hq) (fun q hq => ?_)
  · exact (((Only.refl _ w).alloc o).grown hg fun k hk _ => .inl hk)
  · have e : g = q := by simpa [Value.ownBlock] using hq
    subst e
    refine ⟨?_, hgl⟩
    rcases hat with hat | hat
    · exact .inl hat
    · right; rw [hat]; simp

set_option maxHeartbeats 2000000 in
theorem awake_any (w : World) : Calls Try.prog 8 #[] w fun e w' => e = .returned (.bool true) ∧ Below w.heap.size w w' := by
  have hN : Hid (Calls Try.prog 9 #[.int .i64 2, .int .i64 4] w fun e w' => ∃ p, e = .returned (.tuple #[pp p, .int .i64 0]) ∧ Below w.heap.size w w' ∧ In w.heap.size NoT w' p ⟨[0, 0], [[], []], [0, 1], 4⟩) :=
    new_in (B := w.heap.size) 2 4 w NoT (fun _ h => h.elim) (by omega) (by omega) (by omega) (by omega) (Nat.le_refl _)
  have hT1 : Hid (∀ p W, In w.heap.size NoT W p ⟨[0, 0], [[], []], [0, 1], 4⟩ → Calls Try.prog 10 #[pp p] W fun e w' => e = .returned (.tuple #[.int .i64 0, .int .i64 0]) ∧ Did w.heap.size NoT W p ⟨[1, 0], [[], []], [1], 4⟩ w') :=
    fun p W h => take_in h (by decide)
  have hT2 : Hid (∀ p W, In w.heap.size NoT W p ⟨[1, 0], [[], []], [1], 4⟩ → Calls Try.prog 10 #[pp p] W fun e w' => e = .returned (.tuple #[.int .i64 1, .int .i64 0]) ∧ Did w.heap.size NoT W p ⟨[1, 1], [[], []], [], 4⟩ w') :=
    fun p W h => take_in h (by decide)
  have hT3 : Hid (∀ p W, In w.heap.size NoT W p ⟨[1, 1], [[], []], [], 4⟩ → Calls Try.prog 10 #[pp p] W fun e w' => e = .returned (.tuple #[.int .i64 0, .int .i64 19]) ∧ Did w.heap.size NoT W p ⟨[1, 1], [[], []], [], 4⟩ w') :=
    fun p W h => take_in h (by decide)
  have hD : Hid (∀ p W, In w.heap.size NoT W p ⟨[1, 1], [[], []], [], 4⟩ → Calls Try.prog 11 #[pp p, .int .i64 0] W fun e w' => e = .returned (.int .i64 0) ∧ Did w.heap.size NoT W p ⟨[0, 1], [[], []], [0], 4⟩ w') :=
    fun p W h => drop_in 0 h (by decide) (by decide)
  have hT4 : Hid (∀ p W, In w.heap.size NoT W p ⟨[0, 1], [[], []], [0], 4⟩ → Calls Try.prog 10 #[pp p] W fun e w' => e = .returned (.tuple #[.int .i64 0, .int .i64 0]) ∧ Did w.heap.size NoT W p ⟨[1, 1], [[], []], [], 4⟩ w') :=
    fun p W h => take_in h (by decide)
  unfold pp at *
  go_enter Try.func8, Try.ntmps8
  go_wp2_with (first
    | (go_at_call 10; refine (hT4.out _ _ HI5.out).mono ?_; rintro e6 w6 ⟨rfl, hd6⟩; have HB6 := Lib.hid (HB5.out.trans (hd6.below HI5.out.1)); clear hd6)
    | (go_at_call 11; refine (hD.out _ _ HI4.out).mono ?_; rintro e5 w5 ⟨rfl, hd5⟩; have HB5 := Lib.hid (HB4.out.trans (hd5.below HI4.out.1)); have HI5 := Lib.hid hd5.1; clear hd5)
    | (go_at_call 10; refine (hT3.out _ _ HI3.out).mono ?_; rintro e4 w4 ⟨rfl, hd4⟩; have HB4 := Lib.hid (HB3.out.trans (hd4.below HI3.out.1)); have HI4 := Lib.hid hd4.1; clear hd4)
    | (go_at_call 10; refine (hT2.out _ _ HI2.out).mono ?_; rintro e3 w3 ⟨rfl, hd3⟩; have HB3 := Lib.hid (HB2.out.trans (hd3.below HI2.out.1)); have HI3 := Lib.hid hd3.1; clear hd3)
    | (go_at_call 10; refine (hT1.out _ _ HI1.out).mono ?_; rintro e2 w2 ⟨rfl, hd2⟩; have HB2 := Lib.hid (HB1.out.trans (hd2.below HI1.out.1)); have HI2 := Lib.hid hd2.1; clear hd2)
    | (go_at_call 9; refine hN.out.mono ?_; rintro e1 w1 ⟨p, rfl, hb1, hi1⟩; have HB1 := Lib.hid hb1; have HI1 := Lib.hid hi1; clear hb1 hi1))
  go_ret
  exact ⟨rfl, HB6.out⟩
end Go.Proofs.Ytmebpalfjcejoaa
