/-
  The contract of reedbedlaw05.awake: it returns true; no condition beyond those that each theorem states.
-/
import Derived.Test.YtnigmfjghapfgaaCutPlain
namespace Go.Proofs.Ytnigmfjghapfgaa
open Go.RowKit Go.Rb

end Go.Proofs.Ytnigmfjghapfgaa
namespace Go.Rb
open Go.RowKit
theorem Rd.lit_ (w : World) (t : TypeId) (cs : Array Value) (fr : Nat × Nat) (xs : List Value) (n : Nat) (h : cs.toList = xs) (hn : cs.size = n) : Rd (w.alloc (.cells cs t fr)) (w.heap.size + 1) 1 (some ⟨w.heap.size, 0, none⟩) n xs := by
  subst h hn
  refine ⟨by simp, fun _ => ⟨_, 0, rfl, by omega, fun j _ => ?_⟩⟩
  rw [World.cell?_alloc_mark, Nat.zero_add]
  simp
end Go.Rb
namespace Go.Proofs.Ytnigmfjghapfgaa
open Go.RowKit Go.Rb
def awB : List UInt8 := [97, 98, 99, 100, 101]
def aw0 : SS := ⟨[[97, 98], [99, 100], [101]], 0, 5, 4⟩
def aw1 : SS := ⟨[[99, 100], [101]], 2, 3, 4⟩
def aw2 : SS := ⟨[[100], [101]], 3, 2, 4⟩
def aw3 : SS := ⟨[[101]], 4, 1, 4⟩
theorem awC : cutP awB [2] = [[97, 98], [99, 100], [101]] := by decide
theorem next_det {s s1 s2 : SS} {m e1 e2 : Int} {x1 x2 : List UInt8} (h1 : NextO s m x1 e1 s1) (h2 : NextO s m x2 e2 s2) (hw : Wf s) : x1 = x2 ∧ e1 = e2 ∧ s1 = s2 := by
  cases h1 <;> cases h2 <;> first | exact ⟨rfl, rfl, rfl⟩ | omega | skip
  · rename_i a b c q rest d e f
    have := hw.lf
    rw [f] at this
    have := List.length_pos_iff.2 (hw.ne q (by rw [f]; simp))
    simp at *; omega
  · rename_i q rest d e f a b c
    have := hw.lf
    rw [f] at this
    have := List.length_pos_iff.2 (hw.ne q (by rw [f]; simp))
    simp at *; omega
  · rename_i q rest d e f q2 rest2 d2 e2 f2
    rw [f] at f2
    obtain ⟨rfl, rfl⟩ := List.cons.inj f2
    exact ⟨rfl, rfl, rfl⟩
/-- Next, where what it gives is known. -/
theorem next_at {B p : Nat} {T : Nat → Prop} {w : World} {s s' : SS} {m er : Int} {x : List UInt8} (h : InS B T w p s) (ho : NextO s m x er s') (hl : s.gv + s.lf ≤ 100000) (hfl : s.fl ≤ 9223372036854775807) (hm2 : m ≤ 9223372036854775807) :
    Calls Try.prog 9 #[pp p, .int .i64 m] w fun e w' => ∃ v, e = .returned (.tuple #[v, .int .i64 er]) ∧ Own w' 5 1 v x.length (x.map bV) ∧ (∀ k, v.ownBlock = some k → w.heap.size ≤ k) ∧ InS B (fun k => T k ∨ v.ownBlock = some k) w' p s' ∧ Only (fun k => B ≤ k ∧ ¬ T k) w w' := by
  refine (next_in h m hl hfl hm2).mono ?_
  rintro e w' ⟨v, x2, er2, s2, h1, h2, h3⟩
  obtain ⟨rfl, rfl, rfl⟩ := next_det h2 ho h.wf
  exact ⟨v, h1, h3⟩

set_option maxHeartbeats 2000000 in
theorem awake_any (w : World) : Calls Try.prog 7 #[] w fun e w' => e = .returned (.bool true) ∧ Below w.heap.size w w' := by
  have k1 := Lib.run_convert_bytes_const (P := Try.prog) w 22 5 #[.int .u8 97, .int .u8 98, .int .u8 99, .int .u8 100, .int .u8 101] 5 5 Try.underlying22 Try.underlying5
  have hnew : Hid (∀ X : World, X = (w.alloc (.cells #[.int .u8 97, .int .u8 98, .int .u8 99, .int .u8 100, .int .u8 101] 5 (5, 6))).alloc (.cells #[.int .i64 2] 3) → Calls Try.prog 8 #[.slice (some ⟨w.heap.size, 0, none⟩) 5 5, .int .i64 4, .slice (some ⟨w.heap.size + 1, 0, none⟩) 1 1] X fun e w' => ∃ p, e = .returned (.pointer (some ⟨p, 0, none⟩)) ∧ Below w.heap.size w w' ∧ InS w.heap.size NoT w' p aw0) := by
    rintro X rfl
    have h1 := Rd.lit_ w 5 #[.int .u8 97, .int .u8 98, .int .u8 99, .int .u8 100, .int .u8 101] (5, 6) (awB.map bV) 5 rfl rfl
    have h2 := Rd.lit_ (w.alloc (.cells #[.int .u8 97, .int .u8 98, .int .u8 99, .int .u8 100, .int .u8 101] 5 (5, 6))) 3 #[.int .i64 2] (0, 0) (([2] : List Int).map iV) 1 rfl rfl
    have h1' := h1.below (w' := (w.alloc (.cells #[.int .u8 97, .int .u8 98, .int .u8 99, .int .u8 100, .int .u8 101] 5 (5, 6))).alloc (.cells #[.int .i64 2] 3)) ((Below.refl _ _).alloc (by simp) _)
    have := newS_in (B := w.heap.size) (T := NoT) awB [2] 4 _ _ 5 5 1 1 (w.heap.size + 2) _ (h1'.more (by omega)) (by simpa using h2) (by omega) (by omega) (by omega) (by simp) (by simp; omega) (fun _ h => h.elim) (cutP_wf _ _ _)
    rw [awC] at this
    refine this.mono ?_
    rintro e w' ⟨p, h3, h4, h5⟩
    exact ⟨p, h3, (below_al (below_al (Below.refl _ w) _) _).trans (h4.mono (by simp; omega)), h5⟩
  have hopen : Hid (∀ X : World, Calls Try.prog 14 #[.int .i64 0] X fun e w' => ∃ k S, e = .returned (.pointer (some ⟨k, 0, none⟩)) ∧ Below X.heap.size X w' ∧ KRep w' S k ⟨[], 0, 0⟩ ∧ ∀ q, S q → X.heap.size ≤ q) := fun X => open_any 0 X
  have hput : Hid (∀ X k S, KRep X S k ⟨[], 0, 0⟩ → Calls Try.prog 15 #[.pointer (some ⟨k, 0, none⟩), .string ⟨#[120]⟩] X fun e w' => e = .returned (.int .i64 12) ∧ Only S X w') := fun X k S h =>
    (put_no ⟨#[120]⟩ X h (by decide) ⟨by decide, by decide⟩).mono fun e w' ⟨h1, h2, _⟩ => ⟨h1, h2⟩
  have hx1 : Hid (∀ X p T, InS w.heap.size T X p aw0 → Calls Try.prog 9 #[.pointer (some ⟨p, 0, none⟩), .int .i64 9] X fun e w' => ∃ v, e = .returned (.tuple #[v, .int .i64 0]) ∧ Own w' 5 1 v 2 (([97, 98] : List UInt8).map bV) ∧ (∀ k, v.ownBlock = some k → X.heap.size ≤ k) ∧ InS w.heap.size (fun k => T k ∨ v.ownBlock = some k) w' p aw1 ∧ Only (fun k => w.heap.size ≤ k ∧ ¬ T k) X w') :=
    fun X p T h => next_at (s' := aw1) (x := [97, 98]) h (.some (s := aw0) (m := 9) [97, 98] [[99, 100], [101]] (by decide) (by decide) rfl) (by decide) (by decide) (by decide)
  have hx2 : Hid (∀ X p T, InS w.heap.size T X p aw1 → Calls Try.prog 9 #[.pointer (some ⟨p, 0, none⟩), .int .i64 1] X fun e w' => ∃ v, e = .returned (.tuple #[v, .int .i64 0]) ∧ Own w' 5 1 v 1 (([99] : List UInt8).map bV) ∧ (∀ k, v.ownBlock = some k → X.heap.size ≤ k) ∧ InS w.heap.size (fun k => T k ∨ v.ownBlock = some k) w' p aw2 ∧ Only (fun k => w.heap.size ≤ k ∧ ¬ T k) X w') :=
    fun X p T h => next_at (s' := aw2) (x := [99]) h (.some (s := aw1) (m := 1) [99, 100] [[101]] (by decide) (by decide) rfl) (by decide) (by decide) (by decide)
  have hx3 : Hid (∀ X p T, InS w.heap.size T X p aw2 → Calls Try.prog 9 #[.pointer (some ⟨p, 0, none⟩), .int .i64 9] X fun e w' => ∃ v, e = .returned (.tuple #[v, .int .i64 0]) ∧ Own w' 5 1 v 1 (([100] : List UInt8).map bV) ∧ (∀ k, v.ownBlock = some k → X.heap.size ≤ k) ∧ InS w.heap.size (fun k => T k ∨ v.ownBlock = some k) w' p aw3 ∧ Only (fun k => w.heap.size ≤ k ∧ ¬ T k) X w') :=
    fun X p T h => next_at (s' := aw3) (x := [100]) h (.some (s := aw2) (m := 9) [100] [[101]] (by decide) (by decide) rfl) (by decide) (by decide) (by decide)
  have hx4 : Hid (∀ X p T, InS w.heap.size T X p aw3 → Calls Try.prog 9 #[.pointer (some ⟨p, 0, none⟩), .int .i64 9] X fun e w' => ∃ v, e = .returned (.tuple #[v, .int .i64 11]) ∧ Own w' 5 1 v 0 (([] : List UInt8).map bV) ∧ (∀ k, v.ownBlock = some k → X.heap.size ≤ k) ∧ InS w.heap.size (fun k => T k ∨ v.ownBlock = some k) w' p aw3 ∧ Only (fun k => w.heap.size ≤ k ∧ ¬ T k) X w') :=
    fun X p T h => next_at (s' := aw3) (x := []) h (.fail (s := aw3) (m := 9) (by decide) (by decide) (by decide)) (by decide) (by decide) (by decide)
  go_enter Try.func7, Try.ntmps7
  go_wp2_with (first
    | (go_at_call 8; refine (hnew.out _ rfl).mono ?_; rintro e1 w1 ⟨p, rfl, hb1, hi1⟩; have HB1 := Lib.hid hb1; have HI1 := Lib.hid hi1; clear hb1 hi1)
    | (go_at_call 14; refine (hopen.out _).mono ?_; rintro e2 w2 ⟨k, S, rfl, hb2, hk2, hs2⟩; have HB2 := Lib.hid hb2; have HK2 := Lib.hid hk2; have HS2 := Lib.hid hs2; clear hb2 hk2 hs2)
    | (go_at_call 15; refine (hput.out _ _ _ HK2.out).mono ?_; rintro e3 w3 ⟨rfl, ho3⟩; have HO3 : Hid (Only (fun k => w1.heap.size ≤ k) w1 w3) := (Only.of_below HB2.out).trans ho3 (fun k _ hk => HS2.out k hk); have HI3 := Lib.hid (HI1.out.frame (T' := NoT) HO3.out (fun k hk => .inr hk) (fun k hk => hk.elim)); have HB3 : Hid (Below w.heap.size w w3) := HB1.out.trans (HO3.out.below (B := w.heap.size) HB1.out.size (fun k hk => Nat.le_trans HB1.out.size hk)); clear ho3)
    | (go_at_call 9; refine (hx4.out _ _ _ HI6.out).mono ?_; rintro e7 w7 ⟨v7, rfl, -, -, -, hd7⟩; have HA7 := Lib.hid (HA6.out.only hd7 (fun k hk h => h.2 (.inl (.inl (.inr hk))))); have HC7 := Lib.hid (HC6.out.only hd7 (fun k hk h => h.2 (.inl (.inr hk)))); have HD7 := Lib.hid (HD6.out.only hd7 (fun k hk h => h.2 (.inr hk))); have HB7 := Lib.hid (HB6.out.trans (hd7.below HI6.out.1 (fun k hk => hk.1))); clear hd7)
    | (go_at_call 9; refine (hx3.out _ _ _ HI5.out).mono ?_; rintro e6 w6 ⟨v6, rfl, ho6, -, hi6, hd6⟩; have HA6 := Lib.hid (HA5.out.only hd6 (fun k hk h => h.2 (.inl (.inr hk)))); have HC6 := Lib.hid (HC5.out.only hd6 (fun k hk h => h.2 (.inr hk))); have HD6 := Lib.hid ho6; have HI6 := Lib.hid hi6; have HB6 := Lib.hid (HB5.out.trans (hd6.below HI5.out.1 (fun k hk => hk.1))); clear ho6 hi6 hd6)
    | (go_at_call 9; refine (hx2.out _ _ _ HI4.out).mono ?_; rintro e5 w5 ⟨v5, rfl, ho5, -, hi5, hd5⟩; have HA5 := Lib.hid (HA4.out.only hd5 (fun k hk h => h.2 (.inr hk))); have HC5 := Lib.hid ho5; have HI5 := Lib.hid hi5; have HB5 := Lib.hid (HB4.out.trans (hd5.below HI4.out.1 (fun k hk => hk.1))); clear ho5 hi5 hd5)
    | (go_at_call 9; refine (hx1.out _ _ _ HI3.out).mono ?_; rintro e4 w4 ⟨v4, rfl, ho4, -, hi4, hd4⟩; have HA4 := Lib.hid ho4; have HI4 := Lib.hid hi4; have HB4 := Lib.hid (HB3.out.trans (hd4.below HI3.out.1 (fun k hk => hk.1))); clear ho4 hi4 hd4)
    | (rw [conv_own HA7.out])
    | (rw [conv_own HC7.out])
    | (rw [conv_own HD7.out]))
  go_ret
  exact ⟨rfl, HB7.out⟩
end Go.Proofs.Ytnigmfjghapfgaa
