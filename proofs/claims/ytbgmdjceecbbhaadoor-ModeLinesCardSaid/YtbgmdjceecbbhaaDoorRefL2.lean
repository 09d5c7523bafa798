/-
  The contract of near of the document's layer 18; no condition beyond those that each theorem states.
-/
import Derived.Test.YtbgmdjceecbbhaaDoorRefL1
namespace Go.Proofs.YtbgmdjceecbbhaaDoor
open Go.RowKit Go.Rb
attribute [local irreducible] Go.wpQuiet

def hitAt (l : List Rw) (j : Nat) : Bool := match l[j]? with
  | some x => decide (0 < x.g.length)
  | none => false
theorem hitAt_get (l : List Rw) (j : Nat) (h : j < l.length) : hitAt l j = decide (0 < l[j].g.length) := by
  unfold hitAt; rw [List.getElem?_eq_getElem h]
theorem hitAt_out (l : List Rw) (j : Nat) (h : l.length ≤ j) : hitAt l j = false := by
  unfold hitAt; rw [List.getElem?_eq_none h]
def Fit (l : List Rw) : Prop := ∀ j (h : j < l.length), l[j].hs.length ≤ 1000 ∧ l[j].r.t.length ≤ 60
set_option maxRecDepth 20000 in
set_option maxHeartbeats 400000 in
theorem near_any (l : List Rw) (A : Option Addr) (n c B : Nat) (a b : Int) (w : World) (hr : Rws w B A n l) (hB : B ≤ w.heap.size) (hf : Fit l) (ha : -1000 ≤ a ∧ a ≤ 1000) (hb : -1000 ≤ b ∧ b ≤ 1000) (hn : n ≤ 1000) :
    Calls Tryd.prog 28 #[.slice A n c, .int .i64 a, .int .i64 b] w fun e w' => ∃ r : Bool, e = .returned (.bool r) ∧ (r = true ↔ ∃ j : Nat, a ≤ (j : Int) ∧ (j : Int) ≤ b ∧ hitAt l j = true) ∧ Below w.heap.size w w' := by
  have HR := Lib.hid hr
  have HF := Lib.hid hf
  have hl := hr.1
  have HL := Lib.hid hl
  clear hr hf hl
  go_enter Tryd.func28, Tryd.ntmps28
  go_wp2_with fail
  go_loopw [7] (fun iv wr => ∃ i : Int, iv = .int .i64 i ∧ a ≤ i ∧ (i ≤ b + 1 ∨ i = a) ∧ Hid (∀ j : Nat, a ≤ (j : Int) → (j : Int) < i → hitAt l j = false) ∧ Hid (Below w.heap.size w wr)) (fun iv _ => (b + 1 - intOf iv).toNat)
  case atStart => exact ⟨a, rfl, by omega, .inr rfl, fun j h1 h2 => by omega, Below.refl _ _⟩
  case round =>
    obtain ⟨i, rfl, hai, hib, hno, hbw⟩ := hrel
    have HI := Lib.hid hib
    clear hib
    by_cases hlt : i ≤ b
    · by_cases h0 : 0 ≤ i
      · by_cases h1 : i < (n : Int)
        · obtain ⟨j, rfl⟩ : ∃ j : Nat, i = j := ⟨i.toNat, by omega⟩
          have hjl : j < l.length := by rw [HL.out]; omega
          obtain ⟨pb, po, Ah, ch, rfl, hx⟩ := (HR.out.below hbw.out hB).2 j hjl
          have hfx := HF.out j hjl
          have hha := hitAt_get l j hjl
          generalize l[j] = x at *
          have x0 := hx.c0
          have x1 := hx.c1
          have x2 := hx.c2
          have x3 := hx.c3
          have hpl : pb < wr.heap.size := by have := hx.lt; have := hbw.out.size; omega
          have HH := Lib.hid (hits_any x Ah ch B wr hx.rd (Nat.le_trans hB hbw.out.size) hfx.1 hfx.2)
          unfold rwv at HH
          have HHA := Lib.hid hha
          obtain ⟨m, hm⟩ : ∃ m, x.hs.length = m := ⟨_, rfl⟩
          rw [hm] at x3 HH
          obtain ⟨k, hk⟩ : ∃ k, x.g.length = k := ⟨_, rfl⟩
          rw [hk] at HH HHA
          clear hx hfx hha hm hk hjl
          generalize mk x.r.t = TX at *
          rcases Nat.eq_zero_or_pos k with hk0 | hk0
          · subst hk0
            have HN2 : Hid (∀ q : Nat, a ≤ (q : Int) → (q : Int) < (j : Int) + 1 → hitAt l q = false) := fun q h1 h2 => by
              rcases Nat.lt_or_ge q j with h | h
              · exact hno.out q h1 (by omega)
              · obtain rfl : q = j := by omega
                rw [HHA.out]; rfl
            go_wp2_with (go_at_call 23; go_loud (refine HH.out.mono ?_; rintro e3 w3 ⟨v3, rfl, hown3, hk3, hb3⟩; obtain ⟨A3, c3, rfl, -, -⟩ := hown3.len_; have HB3 := Lib.hid (hbw.out.trans (hb3.mono hbw.out.size)); clear hown3 hk3 hb3))
            go_roundw
            case rel => exact ⟨(j : Int) + 1, rfl, by omega, .inl (by omega), HN2, HB3.out⟩
            case measure => simp [intOf]; omega
          · have i3 : (0 : Int) < (k : Int) := by omega
            have HYES : Hid (hitAt l j = true) := by show _ = _; rw [HHA.out]; exact decide_eq_true hk0
            go_wp2_with (go_at_call 23; go_loud (refine HH.out.mono ?_; rintro e3 w3 ⟨v3, rfl, hown3, hk3, hb3⟩; obtain ⟨A3, c3, rfl, -, -⟩ := hown3.len_; have HB3 := Lib.hid (hbw.out.trans (hb3.mono hbw.out.size)); clear hown3 hk3 hb3))
            go_ret
            exact ⟨true, rfl, ⟨fun _ => ⟨j, hai, hlt, HYES.out⟩, fun _ => rfl⟩, HB3.out⟩
        · have HN2 : Hid (∀ q : Nat, a ≤ (q : Int) → (q : Int) < i + 1 → hitAt l q = false) := fun q g1 g2 => by
            rcases (by omega : (q : Int) < i ∨ (q : Int) = i) with h | h
            · exact hno.out q g1 h
            · exact hitAt_out l q (by rw [HL.out]; omega)
          go_wp2_with fail
          go_roundw
          case rel => exact ⟨i + 1, by go_num, by omega, .inl (by omega), HN2, hbw.out⟩
          case measure => simp [intOf]; omega
      · have HN2 : Hid (∀ q : Nat, a ≤ (q : Int) → (q : Int) < i + 1 → hitAt l q = false) := fun q g1 g2 => by omega
        go_wp2_with fail
        go_roundw
        case rel => exact ⟨i + 1, by go_num, by omega, .inl (by omega), HN2, hbw.out⟩
        case measure => simp [intOf]; omega
    · go_wp2_with fail
      go_ret
      exact .inl ⟨rfl, fun x g1 g2 => hno.out x g1 (by omega), hbw.out⟩
end Go.Proofs.YtbgmdjceecbbhaaDoor
