/-
  The contracts of the sink's function Got and of reedbedref05.Texts; the walk of reedbedlaw05.SourceSinks: it returns true; no condition beyond those that each theorem states.
-/
import Derived.Test.YtnigmfjghapfgaaAwake5
namespace Go.Proofs.Ytnigmfjghapfgaa
open Go.RowKit Go.Rb

set_option maxHeartbeats 1000000 in
theorem cloneT_any (A : Option Addr) (n c B : Nat) (xs : List ByteArray) (w : World) (hr : Rd w B 1 A n (xs.map tV)) (hn : n ≤ 1000000) (hB : B ≤ w.heap.size) :
    Calls Try.prog 22 #[.slice A n c] w fun e w' => ∃ v, e = .returned v ∧ Own w' 9 1 v xs.length (xs.map tV) ∧ Below w.heap.size w w' := by
  obtain ⟨i0, hi0, hz0, hz1, hz2⟩ := info_parts infoT
  have hl : xs.length = n := by simpa using hr.1
  have q30 : ∀ (w : World) (a : Option Addr) (n c n' c' : Nat), (binOp .eql 39 (.slice a n c) (.slice none n' c')).run Try.prog w = .ok (.bool a.isNone) w := fun w a n c n' c' => Lib.run_eql_slice_nil w _ _ a n c n' c' Try.underlying39
  have HR := Lib.hid hr
  have HL := Lib.hid hl
  clear hl
  have h63 : 0 + n ≤ maxLen := by simp only [maxLen]; omega
  have H63 := Lib.hid h63
  clear h63
  cases A with
  | none =>
    have h0 : n = 0 := by
      rcases Nat.eq_zero_or_pos n with h0 | h0
      · exact h0
      · obtain ⟨b, o, h, _⟩ := hr.2 h0
        simp at h
    subst h0
    obtain rfl : xs = [] := List.eq_nil_of_length_eq_zero HL.out
    clear hr
    go_enter Try.func22, Try.ntmps22
    go_wp2
    go_ret
    exact ⟨_, rfl, Own.nil_ _ _ _, Below.refl _ _⟩
  | some a =>
    clear hr
    go_enter Try.func22, Try.ntmps22
    go_wp2_with (at_builtin; refine wpList_append_rd _ rfl (.tmp 5) (.tmp 6) _ rfl 9 i0 _ 1 16 Try.underlying39 hi0 hz0 hz1 hz2 rfl (by omega) (.slice (some ⟨w.heap.size, 0, none⟩) 0 0) 0 [] rfl (by exact Own.lit w 9 1 0 #[] rfl (by decide)) B (some a) n c (xs.map tV) rfl (by exact HR.out.below ((below_al (Below.refl _ _) _).mono hB)) (by simp [tV, Value.oneCell']) H63.out (by omega) _ rfl ?_; intro v1 w1 hown1 hgrow1 hat1)
    go_ret
    refine ⟨_, rfl, ?_, Below.grown (below_al (Below.refl _ w) _) hgrow1 (by simp) (by simp [Value.ownBlock])⟩
    rw [HL.out]; simpa using hown1
set_option maxHeartbeats 1000000 in
theorem got_any {S : Nat → Prop} {k : Nat} {s : KS} (w : World) (hR : KRep w S k s) (hn : s.got.length ≤ 1000000) : Calls Try.prog 18 #[pp k] w fun e w' => ∃ v, e = .returned v ∧ Own w' 9 1 v s.got.length (s.got.map tV) ∧ Below w.heap.size w w' := by
  obtain ⟨gv, h⟩ := hR
  obtain ⟨A, c, rfl, -, -⟩ := h.go.len_
  have c0 : w.cell? ⟨k, 0, none⟩ = some (.slice A s.got.length c) := by rw [h.tb.cell]; rfl
  have HC := Lib.hid (cloneT_any A s.got.length c _ s.got w h.go.rd hn (Nat.le_refl _))
  clear h
  generalize s.got.length = n at *
  generalize s.got.map tV = gs at *
  unfold pp
  go_enter Try.func18, Try.ntmps18
  go_wp2_with (go_at_call 22; refine HC.out.mono ?_; rintro e1 w1 ⟨v1, rfl, ho1, hb1⟩; have HO1 := Lib.hid ho1; have HB1 := Lib.hid hb1; clear ho1 hb1)
  go_ret
  exact ⟨_, rfl, HO1.out, HB1.out⟩

set_option maxHeartbeats 1000000 in
theorem texts_same (A B : Option Addr) (n cA cB : Nat) (xs : List ByteArray) (w : World) (b1 b2 : Nat) (hx : Rd w b1 1 A n (xs.map tV)) (hy : Rd w b2 1 B n (xs.map tV)) (hn : n ≤ 1000000) :
    Calls Try.prog 17 #[.slice A n cA, .slice B n cB] w fun e w' => e = .returned (.bool true) ∧ ∃ q, w' = w.drewN q := by
  have hxl : xs.length = n := by simpa using hx.1
  go_enter Try.func17, Try.ntmps17
  go_wp2
  go_loopw [5] (fun i wr => ∃ k : Nat, k ≤ n ∧ i = .int .i64 k ∧ ∃ q, wr = w.drewN q) (fun i _ => n - (intOf i).toNat)
  case atStart => exact ⟨0, by omega, rfl, 0, rfl⟩
  case round =>
    obtain ⟨k, hk, rfl, q, rfl⟩ := hrel
    by_cases hlt : k < n
    · obtain ⟨bx, ox, rfl, hbx, hcx⟩ := hx.2 (by omega)
      obtain ⟨b_y, o_y, rfl, hby, hcy⟩ := hy.2 (by omega)
      have h1 := hcx k (by omega)
      have h2 := hcy k (by omega)
      rw [List.getElem?_map, List.getElem?_eq_getElem (by omega)] at h1 h2
      simp only [Option.map_some, tV] at h1 h2
      generalize xs[k]'(by omega) = x at *
      have i1 : (k : Int) < (n : Int) := by omega
      have i2 : (0 : Int) ≤ (k : Int) := by omega
      clear hcx hcy
      go_wp2_with fail
      go_quiet (fail)
      go_wp2
      go_roundw
      case rel => exact ⟨k + 1, by omega, by go_num, q + nq, by simp⟩
      case measure => simp [intOf]; omega
    · go_wp2
      go_ret
      exact ⟨rfl, _, rfl⟩

def InK (B : Nat) (T : Nat → Prop) (w : World) (p : Nat) (s : KS) : Prop := B ≤ w.heap.size ∧ (∀ k, T k → k < w.heap.size) ∧ ∃ S, KRep w S p s ∧ ∀ k, S k → B ≤ k ∧ ¬ T k
theorem InK.frame {B p : Nat} {T T' U : Nat → Prop} {w w' : World} {s : KS} (h : InK B T w p s) (hb : Only U w w') (hU : ∀ k, U k → T k ∨ w.heap.size ≤ k) (hT : ∀ k, T' k → (T k ∨ w.heap.size ≤ k) ∧ k < w'.heap.size) : InK B T' w' p s := by
  obtain ⟨hB, hTl, S, hR, hS⟩ := h
  refine ⟨Nat.le_trans hB hb.size, fun k hk => (hT k hk).2, S, hR.frame hb fun k hk hu => ?_, fun k hk => ⟨(hS k hk).1, fun ht => ?_⟩⟩
  · rcases hU k hu with h | h
    · exact (hS k hk).2 h
    · have := hR.lt hk; omega
  · rcases (hT k ht).1 with h | h
    · exact (hS k hk).2 h
    · have := hR.lt hk; omega
theorem InK.below {B p : Nat} {T : Nat → Prop} {w w' : World} {s : KS} (h : InK B T w p s) (hb : Below w.heap.size w w') : InK B T w' p s :=
  h.frame (U := fun k => w.heap.size ≤ k) (Only.of_below hb) (fun _ hk => .inr hk) (fun k hk => ⟨.inl hk, Nat.lt_of_lt_of_le (h.2.1 k hk) hb.size⟩)
theorem InK.push {B p n off c g : Nat} {w w' : World} {l : Value} {s : KS} (h : InK B (fun q => l.ownBlock = some q) w p s) (o : Obj) (hg : (w.alloc o).grownBy w' l.ownBlock)
    (hat : l.ownBlock = some g ∨ g = (w.alloc o).heap.size) (hgl : g < w'.heap.size) : InK B (fun q => (Value.slice (some ⟨g, off, none⟩) n c).ownBlock = some q) w' p s := by
  refine h.frame (U := fun q => l.ownBlock = some q ∨ w.heap.size ≤ q) ?_ (fun q hq => hq) (fun q hq => ?_)
  · exact (((Only.refl _ w).alloc o).grown hg fun k hk _ => .inl hk)
  · have e : g = q := by simpa [Value.ownBlock] using hq
    subst e
    refine ⟨?_, hgl⟩
    rcases hat with hat | hat
    · exact .inl hat
    · right; rw [hat]; simp
theorem putno_in {B p : Nat} {T : Nat → Prop} {w : World} {s : KS} (h : InK B T w p s) (b : ByteArray) (ha : s.ak ≤ 100000) (hn : s.no) :
    Calls Try.prog 15 #[pp p, .string b] w fun e w' => e = .returned (.int .i64 12) ∧ InK B T w' p ⟨s.got, s.rf, s.ak + 1⟩ ∧ Only (fun k => B ≤ k ∧ ¬ T k) w w' := by
  obtain ⟨hB, hTl, S, hR, hS⟩ := h
  exact (put_no b w hR ha hn).mono fun e w' ⟨h1, h2, h3⟩ => ⟨h1, ⟨Nat.le_trans hB h2.size, fun k hk => Nat.lt_of_lt_of_le (hTl k hk) h2.size, S, h3, hS⟩, h2.mono fun k _ hk => hS k hk⟩
theorem putok_in {B p : Nat} {T : Nat → Prop} {w : World} {s : KS} (h : InK B T w p s) (b : ByteArray) (ha : s.ak ≤ 100000) (hl : s.got.length ≤ 100000) (hn : ¬ s.no) :
    Calls Try.prog 15 #[pp p, .string b] w fun e w' => e = .returned (.int .i64 0) ∧ InK B T w' p ⟨s.got ++ [b], s.rf, s.ak + 1⟩ ∧ Only (fun k => B ≤ k ∧ ¬ T k) w w' := by
  obtain ⟨hB, hTl, S, hR, hS⟩ := h
  refine (put_ok b w hR ha hl hn).mono fun e w' ⟨h1, h2, S', h3, h4⟩ => ⟨h1, ⟨Nat.le_trans hB h2.size, fun k hk => Nat.lt_of_lt_of_le (hTl k hk) h2.size, S', h4, fun k hk => ?_⟩, h2.mono fun k _ hk => hS k hk⟩
  rcases h3 k hk with h5 | h5
  · exact hS k h5
  · exact ⟨Nat.le_trans hB h5, fun ht => by have := hTl k ht; omega⟩

set_option maxRecDepth 20000 in
set_option maxHeartbeats 8000000 in
theorem sinks_main (ts : List ByteArray) (rf : Int) (A : Option Addr) (n c : Nat) (w : World) (hr : Rd w w.heap.size 1 A n (ts.map tV)) (hn : n ≤ 40) :
    Calls Try.prog 5 #[.int .i64 rf, .slice A n c] w fun e w' => e = .returned (.bool true) ∧ Below w.heap.size w w' := by
  obtain ⟨i0, hi0, hz0, hz1, hz2⟩ := info_parts infoT
  have hA : Hid (∀ w, Calls Try.prog 7 #[] w fun e w' => e = .returned (.bool true) ∧ Below w.heap.size w w') := awake_any
  have HR := Lib.hid hr
  have i1 : ¬ (40 : Int) < (n : Int) := by omega
  have hO : Hid (∀ X : World, w.heap.size ≤ X.heap.size → Calls Try.prog 14 #[.int .i64 rf] X fun e w' => ∃ k, e = .returned (.pointer (some ⟨k, 0, none⟩)) ∧ Below X.heap.size X w' ∧ InK w.heap.size (fun q => (Value.slice none 0 0).ownBlock = some q) w' k ⟨[], rf, 0⟩) := fun X hX =>
    (open_any rf X).mono fun e w' ⟨k, S, h1, h2, h3, h4⟩ => ⟨k, h1, h2, Nat.le_trans hX h2.size, fun q hq => by simp [Value.ownBlock] at hq, S, h3, fun q hq => ⟨Nat.le_trans hX (h4 q hq), fun h => by simp [Value.ownBlock] at h⟩⟩
  clear hr
  go_enter Try.func5, Try.ntmps5
  go_wp2_with (first
    | (go_at_call 7; refine (hA.out _).mono ?_; rintro e1 w1 ⟨rfl, hb1⟩; have HB1 := Lib.hid hb1; clear hb1)
    | (go_at_call 14; refine (hO.out _ HB1.out.size).mono ?_; rintro e2 w2 ⟨p, rfl, hb2, hi2⟩; have HB2 := Lib.hid (below_trans HB1.out hb2); have HI2 := Lib.hid hi2; clear hb2 hi2))
  go_loopw [6, 7] (fun v i wr => ∃ (j : Nat) (g : List ByteArray), j ≤ n ∧ g.length ≤ j ∧ i = .int .i64 j ∧ Own wr 9 1 v g.length (g.map tV) ∧ Below w.heap.size w wr ∧ (∀ q, v.ownBlock = some q → w.heap.size ≤ q) ∧ InK w.heap.size (fun q => v.ownBlock = some q) wr p ⟨g, rf, j⟩) (fun _ i _ => n - (intOf i).toNat)
  case atStart => exact ⟨0, [], by omega, by simp, rfl, Own.nil_ _ _ _, HB2.out, fun q hq => by simp [Value.ownBlock] at hq, HI2.out⟩
  case round =>
    obtain ⟨j, g, hj, hgj, rfl, hown, hbw, hob, hin⟩ := hrel
    obtain ⟨A2, c2, rfl, -, -⟩ := hown.len_
    have HB := Lib.hid hbw; have HI := Lib.hid hin; have HO := Lib.hid hown; have HOB := Lib.hid hob
    by_cases hlt : j < n
    · have i5 : (j : Int) < (n : Int) := by omega
      obtain ⟨bt, ot, rfl, htB, htc⟩ := HR.out.2 (by omega)
      have htl : ts.length = n := by simpa using HR.out.1
      have ct := htc j (by omega)
      rw [List.getElem?_map, List.getElem?_eq_getElem (by omega)] at ct
      simp only [Option.map_some, tV] at ct
      have ct2 := (hbw.cell (p := ⟨bt, ot + j, none⟩) htB).trans ct
      generalize ts[j]'(by omega) = b at *
      clear ct htc htl
      by_cases hno : KS.no ⟨g, rf, j⟩
      · have hP := putno_in hin b (by show j ≤ 100000; omega) hno
        have b1 : 0 ≤ rf := hno.1
        have b2 : rf ≤ (g.length : Int) := hno.2
        unfold pp at hP
        have HP := Lib.hid hP
        clear hP hin hown hob hbw hno
        generalize hgl : g.length = L at *
        have HGL := Lib.hid hgl
        clear hgl
        have hAsk : Hid (∀ X T, InK w.heap.size T X p ⟨g, rf, j + 1⟩ → Calls Try.prog 16 #[.pointer (some ⟨p, 0, none⟩)] X fun e w' => e = .returned (.int .i64 ((j : Int) + 1)) ∧ X = w') := fun X T h => by
          obtain ⟨_, _, S, hR, _⟩ := h
          have := asked_any X hR
          exact this
        have hGot : Hid (∀ X T, InK w.heap.size T X p ⟨g, rf, j + 1⟩ → Calls Try.prog 18 #[.pointer (some ⟨p, 0, none⟩)] X fun e w' => ∃ v, e = .returned v ∧ Own w' 9 1 v (g).length ((g).map tV) ∧ Below X.heap.size X w') := fun X T h => by
          obtain ⟨_, _, S, hR, _⟩ := h
          exact got_any X hR (by show (g).length ≤ 1000000; rw [HGL.out]; omega)
        have hTx : Hid (∀ X v u, Own X 9 1 v (g).length ((g).map tV) → Own X 9 1 u (g).length ((g).map tV) → Calls Try.prog 17 #[v, u] X fun e w' => e = .returned (.bool true) ∧ ∃ q, w' = X.drewN q) := fun X v u h1 h2 => by
          obtain ⟨A5, c5, rfl, -, -⟩ := h1.len_
          obtain ⟨A6, c6, rfl, -, -⟩ := h2.len_
          exact texts_same A5 A6 _ c5 c6 _ X _ _ h1.rd h2.rd (by rw [HGL.out]; omega)
        go_wp2_with (first
          | (go_at_call 15; refine HP.out.mono ?_; rintro e3 w3 ⟨rfl, hi3, hd3⟩; have HB3 := Lib.hid (HB.out.trans (hd3.below HI.out.1 (fun k hk => hk.1))); have HI3 := Lib.hid hi3; have HO3 := Lib.hid (HO.out.only hd3 (fun k hk h => h.2 hk)); clear hi3 hd3)
          | (go_at_call 16; refine (hAsk.out _ _ HI3.out).mono ?_; rintro e4 w4 ⟨rfl, rfl⟩)
          | (go_at_call 18; refine (hGot.out _ _ HI3.out).mono ?_; rintro e5 w5 ⟨v5, rfl, ho5, hb5⟩; have HB5 := Lib.hid (below_trans HB3.out hb5); have HI5 := Lib.hid (HI3.out.below hb5); have HG5 := Lib.hid ho5; have HO5 := Lib.hid (HO3.out.below hb5 fun _ h => HO3.out.lt h); clear ho5 hb5)
          | (go_at_call 17; refine (hTx.out _ _ _ HG5.out (by rw [HGL.out]; exact HO5.out)).mono ?_; rintro e6 w6 ⟨rfl, q6, rfl⟩))
        go_roundw
        case rel => exact ⟨j + 1, g, by omega, by rw [HGL.out]; omega, by go_num, by rw [HGL.out]; exact HO5.out.drewN q6, below_drewN HB5.out q6, HOB.out, HI5.out.below (below_drewN (Below.refl _ _) q6)⟩
        case measure => simp [intOf]; omega
      · have hP := putok_in hin b (by show j ≤ 100000; omega) (by show g.length ≤ 100000; omega) hno
        unfold pp at hP
        have HP := Lib.hid hP
        have hnb : 0 ≤ rf → ¬ rf ≤ (g.length : Int) := fun h1 h2 => hno ⟨h1, h2⟩
        clear hP hin hown hob hbw hno
        generalize hgl : g.length = L at *
        have HGL := Lib.hid hgl
        clear hgl
        by_cases hf : 0 ≤ rf
        · have b2 : ¬ rf ≤ (L : Int) := hnb hf
          have bd : decide (rf ≤ (L : Int)) = false := by simpa using b2
          clear hnb
          have hAsk : Hid (∀ X T, InK w.heap.size T X p ⟨g ++ [b], rf, j + 1⟩ → Calls Try.prog 16 #[.pointer (some ⟨p, 0, none⟩)] X fun e w' => e = .returned (.int .i64 ((j : Int) + 1)) ∧ X = w') := fun X T h => by
            obtain ⟨_, _, S, hR, _⟩ := h
            have := asked_any X hR
            exact this
          have hGot : Hid (∀ X T, InK w.heap.size T X p ⟨g ++ [b], rf, j + 1⟩ → Calls Try.prog 18 #[.pointer (some ⟨p, 0, none⟩)] X fun e w' => ∃ v, e = .returned v ∧ Own w' 9 1 v (g ++ [b]).length ((g ++ [b]).map tV) ∧ Below X.heap.size X w') := fun X T h => by
            obtain ⟨_, _, S, hR, _⟩ := h
            exact got_any X hR (by show (g ++ [b]).length ≤ 1000000; rw [List.length_append, HGL.out, List.length_singleton]; omega)
          have hTx : Hid (∀ X v u, Own X 9 1 v (g ++ [b]).length ((g ++ [b]).map tV) → Own X 9 1 u (g ++ [b]).length ((g ++ [b]).map tV) → Calls Try.prog 17 #[v, u] X fun e w' => e = .returned (.bool true) ∧ ∃ q, w' = X.drewN q) := fun X v u h1 h2 => by
            obtain ⟨A5, c5, rfl, -, -⟩ := h1.len_
            obtain ⟨A6, c6, rfl, -, -⟩ := h2.len_
            exact texts_same A5 A6 _ c5 c6 _ X _ _ h1.rd h2.rd (by rw [List.length_append, HGL.out, List.length_singleton]; omega)
          have HGB : Hid ((g ++ [b]).length = L + 1 ∧ (g ++ [b]).map tV = g.map tV ++ [.string b]) := ⟨by rw [List.length_append, HGL.out]; rfl, by rw [List.map_append]; rfl⟩
          have HCT := Lib.hid ct2
          go_wp2_with (first
            | (go_at_call 15; refine HP.out.mono ?_; rintro e3 w3 ⟨rfl, hi3, hd3⟩; have HB3 := Lib.hid (HB.out.trans (hd3.below HI.out.1 (fun k hk => hk.1))); have HI3 := Lib.hid hi3; have HO3 := Lib.hid (HO.out.only hd3 (fun k hk h => h.2 hk)); have ct3 := ((hd3.below HI.out.1 (fun k hk => hk.1)).cell (p := ⟨bt, ot + j, none⟩) htB).trans HCT.out; clear hi3 hd3)
            | (go_at_call 16; refine (hAsk.out _ _ HI3.out).mono ?_; rintro e4 w4 ⟨rfl, rfl⟩)
            | (at_builtin; refine wpList_append_mine _ rfl (.tmp 61) (.tmp 66) _ rfl 9 i0 _ 1 16 Try.underlying39 hi0 hz0 hz1 hz2 rfl (by omega) (.slice A2 L c2) L (g.map tV) rfl (by exact HO3.out.alloc _) _ 1 1 [_] rfl rfl (by exact news_push rfl rfl) (by simp [Value.oneCell']) (by omega) (by simp only [maxLen]; omega) (by omega) _ rfl ?_; intro g4 o4 c4 w4 hown4 hgrow4 hat4; have HO4 := Lib.hid hown4; have HI4 := Lib.hid (HI3.out.push (off := o4) (n := L + 1) (c := c4) (.cells #[.string b] 9) hgrow4 hat4 (hown4.lt rfl)); have HB4 := Lib.hid (Below.grown (HB3.out.alloc HB3.out.size _) hgrow4 (by simp; have := HB3.out.size; omega) HOB.out); have HN4 : Hid (w.heap.size ≤ g4) := (by show _ ≤ _; have := HB3.out.size; rcases hat4 with h | h; exact HOB.out _ h; rw [h]; simp; omega); clear hown4 hgrow4 hat4)
            | (go_at_call 18; refine (hGot.out _ _ HI4.out).mono ?_; rintro e5 w5 ⟨v5, rfl, ho5, hb5⟩; have HB5 := Lib.hid (below_trans HB4.out hb5); have HI5 := Lib.hid (HI4.out.below hb5); have HG5 := Lib.hid ho5; have HO5 := Lib.hid (HO4.out.below hb5 fun _ h => HO4.out.lt h); clear ho5 hb5)
            | (go_at_call 17; refine (hTx.out _ _ _ HG5.out (by rw [HGB.out.1, HGB.out.2]; exact HO5.out)).mono ?_; rintro e6 w6 ⟨rfl, q6, rfl⟩))
          go_roundw
          case rel => exact ⟨j + 1, g ++ [b], by omega, by rw [HGB.out.1]; omega, by go_num, by rw [HGB.out.1, HGB.out.2]; exact HO5.out.drewN q6, below_drewN HB5.out q6, fun q hq => by have e9 : g4 = q := (by simpa [Value.ownBlock] using hq); rw [← e9]; exact HN4.out, HI5.out.below (below_drewN (Below.refl _ _) q6)⟩
          case measure => simp [intOf]; omega
        · clear hnb
          have hAsk : Hid (∀ X T, InK w.heap.size T X p ⟨g ++ [b], rf, j + 1⟩ → Calls Try.prog 16 #[.pointer (some ⟨p, 0, none⟩)] X fun e w' => e = .returned (.int .i64 ((j : Int) + 1)) ∧ X = w') := fun X T h => by
            obtain ⟨_, _, S, hR, _⟩ := h
            have := asked_any X hR
            exact this
          have hGot : Hid (∀ X T, InK w.heap.size T X p ⟨g ++ [b], rf, j + 1⟩ → Calls Try.prog 18 #[.pointer (some ⟨p, 0, none⟩)] X fun e w' => ∃ v, e = .returned v ∧ Own w' 9 1 v (g ++ [b]).length ((g ++ [b]).map tV) ∧ Below X.heap.size X w') := fun X T h => by
            obtain ⟨_, _, S, hR, _⟩ := h
            exact got_any X hR (by show (g ++ [b]).length ≤ 1000000; rw [List.length_append, HGL.out, List.length_singleton]; omega)
          have hTx : Hid (∀ X v u, Own X 9 1 v (g ++ [b]).length ((g ++ [b]).map tV) → Own X 9 1 u (g ++ [b]).length ((g ++ [b]).map tV) → Calls Try.prog 17 #[v, u] X fun e w' => e = .returned (.bool true) ∧ ∃ q, w' = X.drewN q) := fun X v u h1 h2 => by
            obtain ⟨A5, c5, rfl, -, -⟩ := h1.len_
            obtain ⟨A6, c6, rfl, -, -⟩ := h2.len_
            exact texts_same A5 A6 _ c5 c6 _ X _ _ h1.rd h2.rd (by rw [List.length_append, HGL.out, List.length_singleton]; omega)
          have HGB : Hid ((g ++ [b]).length = L + 1 ∧ (g ++ [b]).map tV = g.map tV ++ [.string b]) := ⟨by rw [List.length_append, HGL.out]; rfl, by rw [List.map_append]; rfl⟩
          have HCT := Lib.hid ct2
          go_wp2_with (first
            | (go_at_call 15; refine HP.out.mono ?_; rintro e3 w3 ⟨rfl, hi3, hd3⟩; have HB3 := Lib.hid (HB.out.trans (hd3.below HI.out.1 (fun k hk => hk.1))); have HI3 := Lib.hid hi3; have HO3 := Lib.hid (HO.out.only hd3 (fun k hk h => h.2 hk)); have ct3 := ((hd3.below HI.out.1 (fun k hk => hk.1)).cell (p := ⟨bt, ot + j, none⟩) htB).trans HCT.out; clear hi3 hd3)
            | (go_at_call 16; refine (hAsk.out _ _ HI3.out).mono ?_; rintro e4 w4 ⟨rfl, rfl⟩)
            | (at_builtin; refine wpList_append_mine _ rfl (.tmp 61) (.tmp 66) _ rfl 9 i0 _ 1 16 Try.underlying39 hi0 hz0 hz1 hz2 rfl (by omega) (.slice A2 L c2) L (g.map tV) rfl (by exact HO3.out.alloc _) _ 1 1 [_] rfl rfl (by exact news_push rfl rfl) (by simp [Value.oneCell']) (by omega) (by simp only [maxLen]; omega) (by omega) _ rfl ?_; intro g4 o4 c4 w4 hown4 hgrow4 hat4; have HO4 := Lib.hid hown4; have HI4 := Lib.hid (HI3.out.push (off := o4) (n := L + 1) (c := c4) (.cells #[.string b] 9) hgrow4 hat4 (hown4.lt rfl)); have HB4 := Lib.hid (Below.grown (HB3.out.alloc HB3.out.size _) hgrow4 (by simp; have := HB3.out.size; omega) HOB.out); have HN4 : Hid (w.heap.size ≤ g4) := (by show _ ≤ _; have := HB3.out.size; rcases hat4 with h | h; exact HOB.out _ h; rw [h]; simp; omega); clear hown4 hgrow4 hat4)
            | (go_at_call 18; refine (hGot.out _ _ HI4.out).mono ?_; rintro e5 w5 ⟨v5, rfl, ho5, hb5⟩; have HB5 := Lib.hid (below_trans HB4.out hb5); have HI5 := Lib.hid (HI4.out.below hb5); have HG5 := Lib.hid ho5; have HO5 := Lib.hid (HO4.out.below hb5 fun _ h => HO4.out.lt h); clear ho5 hb5)
            | (go_at_call 17; refine (hTx.out _ _ _ HG5.out (by rw [HGB.out.1, HGB.out.2]; exact HO5.out)).mono ?_; rintro e6 w6 ⟨rfl, q6, rfl⟩))
          go_roundw
          case rel => exact ⟨j + 1, g ++ [b], by omega, by rw [HGB.out.1]; omega, by go_num, by rw [HGB.out.1, HGB.out.2]; exact HO5.out.drewN q6, below_drewN HB5.out q6, fun q hq => by have e9 : g4 = q := (by simpa [Value.ownBlock] using hq); rw [← e9]; exact HN4.out, HI5.out.below (below_drewN (Below.refl _ _) q6)⟩
          case measure => simp [intOf]; omega
    · obtain rfl : j = n := by omega
      clear hin hown hob hbw
      go_wp2
      go_ret
      exact ⟨rfl, HB.out⟩
set_option maxHeartbeats 2000000 in
theorem sinks_big (rf : Int) (A : Option Addr) (n c : Nat) (w : World) (hn : ¬ n ≤ 40) :
    Calls Try.prog 5 #[.int .i64 rf, .slice A n c] w fun e w' => e = .returned (.bool true) ∧ Below w.heap.size w w' := by
  have hA : Hid (∀ w, Calls Try.prog 7 #[] w fun e w' => e = .returned (.bool true) ∧ Below w.heap.size w w') := awake_any
  have i1 : (40 : Int) < (n : Int) := by omega
  clear hn
  go_enter Try.func5, Try.ntmps5
  go_wp2_with (first
    | (go_at_call 7; refine (hA.out _).mono ?_; rintro e2 w2 ⟨rfl, hb2⟩; have HB2 := Lib.hid (below_trans HB1.out hb2); clear hb2)
    | (go_at_call 7; refine (hA.out _).mono ?_; rintro e1 w1 ⟨rfl, hb1⟩; have HB1 := Lib.hid hb1; clear hb1))
  go_ret
  exact ⟨rfl, HB2.out⟩
theorem sinks_any (ts : List ByteArray) (rf : Int) (A : Option Addr) (n c : Nat) (w : World) (hr : Rd w w.heap.size 1 A n (ts.map tV)) :
    Calls Try.prog 5 #[.int .i64 rf, .slice A n c] w fun e w' => e = .returned (.bool true) ∧ Below w.heap.size w w' := by
  by_cases h : n ≤ 40
  · exact sinks_main ts rf A n c w hr h
  · exact sinks_big rf A n c w h
end Go.Proofs.Ytnigmfjghapfgaa
