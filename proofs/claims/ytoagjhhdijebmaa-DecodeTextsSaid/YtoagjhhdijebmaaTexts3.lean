/-
  The laws 'texts' (DecodeTexts), 'kinds' (DecodeKinds) and 'a beginning' (DecodeBegins): their walks; no condition beyond those that each theorem states.
-/
import Derived.Test.YtoagjhhdijebmaaDec6
namespace Go.Proofs.Ytoagjhhdijebmaa
open Go.RowKit Go.Rb
attribute [local irreducible] Go.wpQuiet

set_option maxRecDepth 20000 in
set_option maxHeartbeats 8000000 in
theorem texts_small (k : Int) (x : List UInt8) (A : Option Addr) (n c : Nat) (w : World) (hr : Rd w w.heap.size 1 A n (x.map bV)) (hn : n ≤ 400) :
    Calls Try.prog 4 #[.int .i64 k, .slice A n c] w fun e w' => e = .returned (.bool true) ∧ Below w.heap.size w w' := by
  have HA : Hid (∀ w, Calls Try.prog 7 #[] w fun e w' => e = .returned (.bool true) ∧ Below w.heap.size w w') := awake_any
  obtain ⟨i0, hi0, hz0, hz1, hz2⟩ := info_parts bInfo
  have hxl : x.length = n := by simpa using hr.1
  have HR := Lib.hid hr
  have HH := Lib.hid (one_bytes x)
  have HD := Lib.hid (fun A c W hr => dtext_any k x A n c W hr (by omega))
  have HT := Lib.hid (fun W => rtext_any k x W (by omega))
  have htl := T_len k x
  have HTT := T_text k x
  obtain ⟨S, hS⟩ : ∃ S, T k x = S := ⟨_, rfl⟩
  rw [hS] at HD HT htl HTT
  have HD2 : Hid (∀ A c W, Rd W W.heap.size 1 A S.length (S.map bV) → Calls Try.prog 13 #[.int .i64 1, .slice A S.length c] W fun e w' => e = .returned (.string ⟨S.toArray⟩) ∧ Below W.heap.size W w') := fun A c W hr => by
    have := dtext_any 1 S A S.length c W hr (by omega)
    rwa [HTT] at this
  have HC : Hid (∀ W, Below w.heap.size w W → (convert 22 9 (.slice A n c)).run Try.prog W = .ok (.string ⟨x.toArray⟩) W) := fun W hW => conv_rd (hr.below hW)
  have hzs : (⟨S.toArray⟩ : ByteArray).size = S.length := rfl
  have HRC : Hid (∀ (W : World) (cap : Nat) (fr : Nat × Nat), Rd ((W.alloc (.cells (bytesRow ⟨S.toArray⟩ cap) 5 fr)).drew) (W.heap.size + 1) 1 (some ⟨W.heap.size, 0, none⟩) S.length (S.map bV)) := fun W cap fr => rd_conv W ⟨S.toArray⟩ cap 5 fr
  have i1 : ¬ (400 : Int) < (n : Int) := by omega
  have H63 := Lib.hid (show 0 + n ≤ maxLen by simp only [maxLen]; omega)
  have hsl : S.length ≤ 1600 := by omega
  clear hr hS HTT htl hxl
  obtain ⟨ls, hls⟩ : ∃ m, S.length = m := ⟨_, rfl⟩
  rw [hls] at HD2 hzs HRC hsl
  clear hls
  have HCO := Lib.hid (fun (W1 W2 : World) (v : Value) (h : Own W1 5 1 v n (x.map bV)) (hb : Below W1.heap.size W1 W2) => conv_later h hb)
  have kb := fun (W : World) => run_bytes_of_string (P := Try.prog) W 9 22 5 ⟨S.toArray⟩ Try.underlying9 Try.underlying22 Try.underlying5
  rw [hzs] at kb
  generalize (⟨S.toArray⟩ : ByteArray) = bs at *
  generalize (⟨x.toArray⟩ : ByteArray) = bx at *
  go_enter Try.func4, Try.ntmps4
  go_wp2_with (first
    | (go_at_call 7; refine (HA.out _).mono ?_; rintro e1 w1 ⟨rfl, hb1⟩; have HB1 := Lib.hid hb1; clear hb1)
    | (at_builtin; go_loud (refine wpList_append_rd _ rfl (.tmp 15) (.tmp 16) _ rfl 5 i0 _ 1 1 Try.underlying22 hi0 hz0 hz1 hz2 rfl (by omega) (.slice (some ⟨w1.heap.size, 0, none⟩) 0 0) 0 [] rfl (by exact Own.lit w1 5 1 0 #[] rfl (by decide)) _ A n c (x.map bV) rfl (by exact HR.out.below (below_al HB1.out _)) HH.out H63.out (by omega) _ rfl ?_; intro v2 w2 hown2 hgrow2 hat2; rw [Nat.zero_add, List.nil_append] at hown2; obtain ⟨A2, c2, rfl, -, -⟩ := hown2.len_; have HO2 := Lib.hid hown2; have HB2 := Lib.hid (below_trans HB1.out (Below.grown (below_al (Below.refl _ w1) (.cells #[] 5)) hgrow2 (by simp) (by simp [Value.ownBlock]))); clear hown2 hgrow2 hat2))
    | (go_at_call 13; (with_reducible refine (HD.out _ _ _ HO2.out.rd).mono ?_); rintro e3 w3 ⟨rfl, hb3⟩; have HB23 := Lib.hid hb3; have HB3 := Lib.hid (below_trans HB2.out hb3); have kc := HC.out _ HB3.out; clear hb3)
    | (go_at_call 14; refine (HT.out _).mono ?_; rintro e4 w4 ⟨rfl, hb4⟩; have HB24 := Lib.hid (below_trans HB23.out hb4); have HB4 := Lib.hid (below_trans HB3.out hb4); clear hb4 kc)
    | (go_at_call 13; go_loud (refine (HD2.out _ _ _ ((HRC.out w4 _ _).more (by simp))).mono ?_); rintro e5 w5 ⟨rfl, hb5⟩; have HB45 := Lib.hid (below_trans ((below_al (Below.refl _ w4) _).drew) hb5); have HB25 := Lib.hid (below_trans HB24.out HB45.out); have HB5 := Lib.hid (below_trans HB4.out HB45.out); have kc := HC.out _ HB5.out; have kd := HCO.out _ _ _ HO2.out HB25.out; clear hb5 kb))
  go_ret
  exact ⟨by simp, HB5.out⟩
set_option maxHeartbeats 4000000 in
theorem texts_big (k : Int) (A : Option Addr) (n c : Nat) (w : World) (h : ¬ n ≤ 400) : Calls Try.prog 4 #[.int .i64 k, .slice A n c] w fun e w' => e = .returned (.bool true) ∧ Below w.heap.size w w' := by
  have HA : Hid (∀ w, Calls Try.prog 7 #[] w fun e w' => e = .returned (.bool true) ∧ Below w.heap.size w w') := awake_any
  have i1 : (400 : Int) < (n : Int) := by omega
  clear h
  go_enter Try.func4, Try.ntmps4
  go_wp2_with (first
    | (go_at_call 7; refine (HA.out _).mono ?_; rintro e2 w2 ⟨rfl, hb2⟩; have HB2 := Lib.hid (below_trans HB1.out hb2); clear hb2)
    | (go_at_call 7; refine (HA.out _).mono ?_; rintro e1 w1 ⟨rfl, hb1⟩; have HB1 := Lib.hid hb1; clear hb1))
  go_ret
  exact ⟨rfl, HB2.out⟩
theorem texts_any (k : Int) (x : List UInt8) (A : Option Addr) (n c : Nat) (w : World) (hr : Rd w w.heap.size 1 A n (x.map bV)) :
    Calls Try.prog 4 #[.int .i64 k, .slice A n c] w fun e w' => e = .returned (.bool true) ∧ Below w.heap.size w w' := by
  by_cases h : n ≤ 400
  · exact texts_small k x A n c w hr h
  · exact texts_big k A n c w h
end Go.Proofs.Ytoagjhhdijebmaa
