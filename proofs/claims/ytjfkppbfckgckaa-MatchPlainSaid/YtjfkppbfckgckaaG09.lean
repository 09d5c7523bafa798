/-
  the contract of prog.Right; the contracts of reedbedref08.Has and of set.Has; no condition beyond those that each theorem states.
-/
import Derived.Test.YtjfkppbfckgckaaG08
import Derived.Test.YtjfkppbfckgckaaG01
import Derived.Handy
set_option linter.unusedVariables false
set_option linter.unusedSimpArgs false
namespace Go.Proofs.Ytjfkppbfckgckaa
set_option maxRecDepth 20000
open Go.RowKit Go.Rb
attribute [local irreducible] Go.wpQuiet

def inB (n : Nat) (i : Int) : Bool := decide (0 ≤ i ∧ i < (n : Int))
theorem there_any (i : Int) (g : Nat) (A : Option Addr) (n c : Nat) (w : World) (hg : w.cell? ⟨g, 0, none⟩ = some (.slice A n c)) :
    Calls Try.prog 41 #[.int .i64 i, .pointer (some ⟨g, 0, none⟩)] w fun e w' => e = .returned (.bool (inB n i)) ∧ w' = w := by
  by_cases h0 : 0 ≤ i
  · by_cases h1 : i < (n : Int)
    · have e : inB n i = true := by simp [inB, h0, h1]
      rw [e]
      go_enter Try.func41, Try.ntmps41
      go_wp2_with fail
      go_ret
      exact ⟨rfl, rfl⟩
    · have e : inB n i = false := by simp [inB, h1]
      rw [e]
      go_enter Try.func41, Try.ntmps41
      go_wp2_with fail
      go_ret
      exact ⟨rfl, rfl⟩
  · have e : inB n i = false := by simp [inB, h0]
    rw [e]
    go_enter Try.func41, Try.ntmps41
    go_wp2_with fail
    go_ret
    exact ⟨rfl, rfl⟩
set_option maxHeartbeats 1000000 in
theorem progRight_any (l : List In) (A : Option Addr) (n c : Nat) (w : World) (hr : InsR w A l) (hl : l.length = n) (hn : n ≤ 1000000) (hc : n ≤ c) :
    Calls Try.prog 26 #[.slice A n c] w fun e w' => e = .returned (.bool (rightP n l)) ∧ Below w.heap.size w w' := by
  have HL := Lib.hid hl
  have HT := Lib.hid hr
  clear hr hl
  go_enter Try.func26, Try.ntmps26
  go_wp2_with fail
  go_loopw [9] (fun iv wr => ∃ i : Nat, iv = .int .i64 (i : Int) ∧ i ≤ n ∧ Below w.heap.size w wr ∧ Hid ((l.take i).all (okI n) = true) ∧ Hid (wr.cell? ⟨w.heap.size, 0, none⟩ = some (.slice A n c)) ∧ w.heap.size < wr.heap.size) (fun iv _ => n - (intOf iv).toNat)
  case atStart => exact ⟨0, rfl, by omega, below_al (Below.refl _ _) _, by simp [Hid], by simp [Hid], by simp⟩
  case round =>
  obtain ⟨i, rfl, hin, hbw, HI, HCG, hgl⟩ := hrel
  have HB := Lib.hid hbw
  have hgw := hbw.size
  have HTH : Hid (∀ (j : Int) W, W.cell? ⟨w.heap.size, 0, none⟩ = some (.slice A n c) → Calls Try.prog 41 #[.int .i64 j, .pointer (some ⟨w.heap.size, 0, none⟩)] W fun e w' => e = .returned (.bool (inB n j)) ∧ w' = W) := fun j W hW => there_any j _ A n c W hW
  have HCA : Hid (∀ o, (wr.alloc o).cell? ⟨w.heap.size, 0, none⟩ = some (.slice A n c)) := fun o => (World.cell?_alloc_lt _ _ ⟨_, 0, none⟩ hgl).trans HCG.out
  by_cases hlt : i < n
  · have hcl : i < l.length := by rw [HL.out]; exact hlt
    obtain ⟨t, hi⟩ : ∃ t, l[i]? = some t := ⟨_, List.getElem?_eq_getElem hcl⟩
    obtain ⟨b, off, rfl, hb, hat⟩ := (HT.out.under hbw) (fun e => by rw [e] at hcl; simp at hcl)
    obtain ⟨A1, n1, c1, c0, c1', c2, c3⟩ := hat i t hi
    clear hat hcl hbw HL HT
    obtain ⟨op, x, y⟩ := t
    simp only at c0 c2 c3
    by_cases h0 : op = 0
    · subst h0
      have HG : Hid ((l.take (i + 1)).all (okI n) = true) := take_ok hi HI.out (by simp [okI])
      clear HI
      go_wp2_with (go_at_call 41; go_loud (refine (HTH.out _ _ (HCA.out _)).mono ?_; rintro e1 w1 ⟨rfl, rfl⟩))
      go_roundw
      case rel => exact ⟨i + 1, by go_num, by omega, HB.out.alloc HB.out.size _, HG.out, HCA.out _, by simp; omega⟩
      case measure => simp [intOf]; omega
    have h0' : (op == 0) = false := by simpa using h0
    by_cases h2 : op = 2
    · subst h2
      cases hy : inB n y with
      | false =>
        have HF : Hid (rightP n l = false) := rightP_bad hi HI.out (by simp [inB] at *; simp [okI]; omega)
        clear HI
        go_wp2_with (go_at_call 41; go_loud (refine (HTH.out _ _ (HCA.out _)).mono ?_; rintro e1 w1 ⟨rfl, rfl⟩))
        go_returns
        exact ⟨by rw [HF.out]; rfl, HB.out.alloc HB.out.size _⟩
      | true =>
        cases hx : inB n x with
        | false =>
          have HF : Hid (rightP n l = false) := rightP_bad hi HI.out (by simp [inB] at *; simp [okI]; omega)
          clear HI
          go_wp2_with (go_at_call 41; go_loud (refine (HTH.out _ _ (HCA.out _)).mono ?_; rintro e1 w1 ⟨rfl, rfl⟩))
          go_returns
          exact ⟨by rw [HF.out]; rfl, HB.out.alloc HB.out.size _⟩
        | true =>
          have HG : Hid ((l.take (i + 1)).all (okI n) = true) := take_ok hi HI.out (by simp [inB] at *; simp [okI]; omega)
          clear HI
          go_wp2_with (go_at_call 41; go_loud (refine (HTH.out _ _ (HCA.out _)).mono ?_; rintro e1 w1 ⟨rfl, rfl⟩))
          go_roundw
          case rel => exact ⟨i + 1, by go_num, by omega, HB.out.alloc HB.out.size _, HG.out, HCA.out _, by simp; omega⟩
          case measure => simp [intOf]; omega
    have h2' : (op == 2) = false := by simpa using h2
    by_cases h1 : op = 1
    · subst h1
      cases hx : inB n x with
      | false =>
        have HF : Hid (rightP n l = false) := rightP_bad hi HI.out (by simp [inB] at *; simp [okI]; omega)
        clear HI
        go_wp2_with (go_at_call 41; go_loud (refine (HTH.out _ _ (HCA.out _)).mono ?_; rintro e1 w1 ⟨rfl, rfl⟩))
        go_returns
        exact ⟨by rw [HF.out]; rfl, HB.out.alloc HB.out.size _⟩
      | true =>
        have HG : Hid ((l.take (i + 1)).all (okI n) = true) := take_ok hi HI.out (by simp [inB] at *; simp [okI]; omega)
        clear HI
        go_wp2_with (go_at_call 41; go_loud (refine (HTH.out _ _ (HCA.out _)).mono ?_; rintro e1 w1 ⟨rfl, rfl⟩))
        go_roundw
        case rel => exact ⟨i + 1, by go_num, by omega, HB.out.alloc HB.out.size _, HG.out, HCA.out _, by simp; omega⟩
        case measure => simp [intOf]; omega
    have h1' : (op == 1) = false := by simpa using h1
    by_cases h3 : op = 3
    · subst h3
      cases hx : inB n x with
      | false =>
        have HF : Hid (rightP n l = false) := rightP_bad hi HI.out (by simp [inB] at *; simp [okI]; omega)
        clear HI
        go_wp2_with (go_at_call 41; go_loud (refine (HTH.out _ _ (HCA.out _)).mono ?_; rintro e1 w1 ⟨rfl, rfl⟩))
        go_returns
        exact ⟨by rw [HF.out]; rfl, HB.out.alloc HB.out.size _⟩
      | true =>
        have HG : Hid ((l.take (i + 1)).all (okI n) = true) := take_ok hi HI.out (by simp [inB] at *; simp [okI]; omega)
        clear HI
        go_wp2_with (go_at_call 41; go_loud (refine (HTH.out _ _ (HCA.out _)).mono ?_; rintro e1 w1 ⟨rfl, rfl⟩))
        go_roundw
        case rel => exact ⟨i + 1, by go_num, by omega, HB.out.alloc HB.out.size _, HG.out, HCA.out _, by simp; omega⟩
        case measure => simp [intOf]; omega
    have h3' : (op == 3) = false := by simpa using h3
    by_cases h4 : op = 4
    · subst h4
      cases hx : inB n x with
      | false =>
        have HF : Hid (rightP n l = false) := rightP_bad hi HI.out (by simp [inB] at *; simp [okI]; omega)
        clear HI
        go_wp2_with (go_at_call 41; go_loud (refine (HTH.out _ _ (HCA.out _)).mono ?_; rintro e1 w1 ⟨rfl, rfl⟩))
        go_returns
        exact ⟨by rw [HF.out]; rfl, HB.out.alloc HB.out.size _⟩
      | true =>
        have HG : Hid ((l.take (i + 1)).all (okI n) = true) := take_ok hi HI.out (by simp [inB] at *; simp [okI]; omega)
        clear HI
        go_wp2_with (go_at_call 41; go_loud (refine (HTH.out _ _ (HCA.out _)).mono ?_; rintro e1 w1 ⟨rfl, rfl⟩))
        go_roundw
        case rel => exact ⟨i + 1, by go_num, by omega, HB.out.alloc HB.out.size _, HG.out, HCA.out _, by simp; omega⟩
        case measure => simp [intOf]; omega
    have h4' : (op == 4) = false := by simpa using h4
    have HF : Hid (rightP n l = false) := rightP_bad hi HI.out (by simp [okI]; omega)
    clear HI
    go_wp2_with (go_at_call 41; go_loud (refine (HTH.out _ _ (HCA.out _)).mono ?_; rintro e1 w1 ⟨rfl, rfl⟩))
    go_returns
    exact ⟨by rw [HF.out]; rfl, HB.out.alloc HB.out.size _⟩
  · have e : i = n := by omega
    have HF : Hid (rightP n l = decide (0 < n)) := by
      show _ = _
      have : (l.take i).all (okI n) = true := HI.out
      rw [List.take_of_length_le (by rw [HL.out]; omega)] at this
      simp [rightP, this]
    have cg := HCG.out
    clear hbw e HI
    go_wp2_with fail
    go_returns
    exact ⟨by rw [HF.out]; simp, HB.out⟩
end Go.Proofs.Ytjfkppbfckgckaa
namespace Go.Proofs.Ytjfkppbfckgckaa
open Go.RowKit Go.Rb
attribute [local irreducible] Go.wpQuiet

/-- Ranges in a slice that is read. -/
def RgR (w : World) (B : Nat) (A : Option Addr) (s : List (Int × Int)) : Prop := s ≠ [] → ∃ b off, A = some ⟨b, off, none⟩ ∧ b < B ∧ ∀ (i : Nat) (q : Int × Int), s[i]? = some q → w.cell? ⟨b, off + i * 2, none⟩ = some (.int .i64 q.1) ∧ w.cell? ⟨b, off + i * 2 + 1, none⟩ = some (.int .i64 q.2)
theorem RgR.below {w w' : World} {B : Nat} {A : Option Addr} {s : List (Int × Int)} (h : RgR w B A s) (hb : Below B w w') : RgR w' B A s := fun hs => by
  obtain ⟨b, off, hA, hlt, hc⟩ := h hs
  refine ⟨b, off, hA, hlt, fun i q hi => ?_⟩
  obtain ⟨h1, h2⟩ := hc i q hi
  exact ⟨(hb.cell (p := ⟨b, _, none⟩) hlt).trans h1, (hb.cell (p := ⟨b, _, none⟩) hlt).trans h2⟩
theorem RgR.more {w : World} {B B' : Nat} {A : Option Addr} {s : List (Int × Int)} (h : RgR w B A s) (hB : B ≤ B') : RgR w B' A s := fun hs => by
  obtain ⟨b, off, hA, hlt, hc⟩ := h hs
  exact ⟨b, off, hA, by omega, hc⟩
def inR (r : Int) (q : Int × Int) : Bool := decide (q.1 ≤ r) && decide (r ≤ q.2)
theorem hasS_in {r : Int} (h0 : 0 ≤ r) (h1 : r ≤ 1114111) (s : List (Int × Int)) : hasS s r = s.any (inR r) := by
  unfold hasS inR
  congr 1
  funext q
  simp [h0, h1]
theorem hasS_out {r : Int} (h : ¬ (0 ≤ r ∧ r ≤ 1114111)) (s : List (Int × Int)) : hasS s r = false := by
  unfold hasS
  rw [List.any_eq_false]
  intro q _
  simp
  omega
theorem any_take {r : Int} {s : List (Int × Int)} {i : Nat} {q : Int × Int} (hi : s[i]? = some q) (h : (s.take i).any (inR r) = false) (hq : inR r q = false) : (s.take (i + 1)).any (inR r) = false := by
  rw [List.take_add_one, hi, List.any_append, h]
  simpa using hq
theorem any_hit {r : Int} {s : List (Int × Int)} {i : Nat} {q : Int × Int} (hi : s[i]? = some q) (hq : inR r q = true) : s.any (inR r) = true :=
  List.any_eq_true.2 ⟨q, List.mem_of_getElem? hi, hq⟩
set_option maxHeartbeats 400000 in
theorem refHas_any (s : List (Int × Int)) (r : Int) (A : Option Addr) (n c B : Nat) (w : World) (hr : RgR w B A s) (hB : B ≤ w.heap.size) (hl : s.length = n) (hn : n ≤ 1000) (hc : n ≤ c) :
    Calls Try.prog 49 #[.slice A n c, .int .i64 r] w fun e w' => e = .returned (.bool (hasS s r)) ∧ w' = w := by
  have HL := Lib.hid hl
  have HT := Lib.hid hr
  obtain ⟨R, hR⟩ : ∃ R, hasS s r = R := ⟨_, rfl⟩
  have HR := Lib.hid hR
  rw [hR]
  clear hr hl hR
  go_enter Try.func49, Try.ntmps49
  go_wp2_with fail
  go_loopw [5] (fun iv wr => ∃ i : Nat, iv = .int .i64 (i : Int) ∧ i ≤ n ∧ wr = w ∧ Hid (0 ≤ r ∧ r ≤ 1114111 → (s.take i).any (inR r) = false)) (fun iv _ => n - (intOf iv).toNat)
  case atStart => exact ⟨0, rfl, by omega, rfl, fun _ => by simp⟩
  case round =>
  obtain ⟨i, rfl, hin, hw, HI⟩ := hrel
  subst hw
  by_cases hlt : i < n
  · have hcl : i < s.length := by rw [HL.out]; exact hlt
    obtain ⟨q, hi⟩ : ∃ q, s[i]? = some q := ⟨_, List.getElem?_eq_getElem hcl⟩
    obtain ⟨b, off, rfl, hb, hat⟩ := HT.out (fun e => by rw [e] at hcl; simp at hcl)
    obtain ⟨c0, c1⟩ := hat i q hi
    obtain ⟨lo, hi2⟩ := q
    simp only at c0 c1
    have HQ := Lib.hid hi
    have hbw : b < wr.heap.size := by omega
    clear hat hcl hi
    by_cases h1 : lo ≤ r
    · by_cases h2 : r ≤ hi2
      · by_cases h3 : 0 ≤ r
        · by_cases h4 : r ≤ 1114111
          · have HF : Hid (R = true) := by show _ = _; rw [← HR.out, hasS_in h3 h4]; exact any_hit HQ.out (by simp [inR, h1, h2])
            go_wp2_with fail
            go_returns
            exact ⟨by rw [HF.out]; rfl, rfl⟩
          · have HG : Hid (0 ≤ r ∧ r ≤ 1114111 → (s.take (i + 1)).any (inR r) = false) := fun h => absurd h.2 h4
            go_wp2_with fail
            go_roundw
            case rel => exact ⟨i + 1, by go_num, by omega, trivial, HG.out⟩
            case measure => simp [intOf] <;> omega
        · have HG : Hid (0 ≤ r ∧ r ≤ 1114111 → (s.take (i + 1)).any (inR r) = false) := fun h => absurd h.1 h3
          go_wp2_with fail
          go_roundw
          case rel => exact ⟨i + 1, by go_num, by omega, trivial, HG.out⟩
          case measure => simp [intOf] <;> omega
      · have HG : Hid (0 ≤ r ∧ r ≤ 1114111 → (s.take (i + 1)).any (inR r) = false) := fun h => any_take HQ.out (HI.out h) (by simp [inR]; omega)
        go_wp2_with fail
        go_roundw
        case rel => exact ⟨i + 1, by go_num, by omega, trivial, HG.out⟩
        case measure => simp [intOf] <;> omega
    · have HG : Hid (0 ≤ r ∧ r ≤ 1114111 → (s.take (i + 1)).any (inR r) = false) := fun h => any_take HQ.out (HI.out h) (by simp [inR]; omega)
      go_wp2_with fail
      go_roundw
      case rel => exact ⟨i + 1, by go_num, by omega, trivial, HG.out⟩
      case measure => simp [intOf] <;> omega
  · obtain rfl : i = n := by omega
    have HF : Hid (R = false) := by
      show _ = _
      rw [← HR.out]
      by_cases h : 0 ≤ r ∧ r ≤ 1114111
      · rw [hasS_in h.1 h.2]
        have := HI.out h
        rwa [List.take_of_length_le (by rw [HL.out]; omega)] at this
      · exact hasS_out h s
    go_wp2_with fail
    go_returns
    exact ⟨by rw [HF.out]; rfl, rfl⟩
set_option maxHeartbeats 400000 in
theorem inside_any (r : Int) (lo hi : Int) (g : Nat) (w : World) (hg : w.cell? ⟨g, 0, none⟩ = some (.int .i64 r)) (hgl : g < w.heap.size) :
    Calls Try.prog 59 #[.agg #[.int .i64 lo, .int .i64 hi], .pointer (some ⟨g, 0, none⟩)] w fun e w' => e = .returned (.bool (inR r (lo, hi))) ∧ Below w.heap.size w w' := by
  by_cases h0 : lo ≤ r
  · by_cases h1 : r ≤ hi
    · have e : inR r (lo, hi) = true := by simp [inR, h0, h1]
      rw [e]
      go_enter Try.func59, Try.ntmps59
      go_wp2_with fail
      go_ret
      exact ⟨rfl, below_al (Below.refl _ _) _⟩
    · have e : inR r (lo, hi) = false := by simp [inR, h1]
      rw [e]
      go_enter Try.func59, Try.ntmps59
      go_wp2_with fail
      go_ret
      exact ⟨rfl, below_al (Below.refl _ _) _⟩
  · have e : inR r (lo, hi) = false := by simp [inR, h0]
    rw [e]
    go_enter Try.func59, Try.ntmps59
    go_wp2_with fail
    go_ret
    exact ⟨rfl, below_al (Below.refl _ _) _⟩
set_option maxHeartbeats 400000 in
theorem index_any (s : List (Int × Int)) (r : Int) (A : Option Addr) (n c B g : Nat) (w : World) (hr : RgR w B A s) (hB : B ≤ w.heap.size) (hl : s.length = n) (hn : n ≤ 1000) (hc : n ≤ c) (hg : w.cell? ⟨g, 0, none⟩ = some (.int .i64 r)) (hgl : g < w.heap.size) :
    Calls Try.prog 71 #[.slice A n c, .func (Fn.func 59) #[] #[.pointer (some ⟨g, 0, none⟩)]] w fun e w' => ∃ k : Int, e = .returned (.int .i64 k) ∧ decide (0 ≤ k) = s.any (inR r) ∧ k ≤ 1000 ∧ -1 ≤ k ∧ Below w.heap.size w w' := by
  have HL := Lib.hid hl
  have HT := Lib.hid hr
  obtain ⟨R, hR⟩ : ∃ R, s.any (inR r) = R := ⟨_, rfl⟩
  have HR := Lib.hid hR
  rw [hR]
  clear hr hl hR
  go_enter Try.func71, Try.ntmps71
  go_wp2_with fail
  go_loopw [8] (fun iv wr => ∃ i : Nat, iv = .int .i64 (i : Int) ∧ i ≤ n ∧ Hid (Below w.heap.size w wr) ∧ Hid ((s.take i).any (inR r) = false)) (fun iv _ => n - (intOf iv).toNat)
  case atStart => exact ⟨0, rfl, by omega, Below.refl _ _, by simp [Hid]⟩
  case round =>
  obtain ⟨i, rfl, hin, HB, HI⟩ := hrel
  have hsz := HB.out.size
  by_cases hlt : i < n
  · have hcl : i < s.length := by rw [HL.out]; exact hlt
    obtain ⟨q, hi⟩ : ∃ q, s[i]? = some q := ⟨_, List.getElem?_eq_getElem hcl⟩
    obtain ⟨b, off, rfl, hb, hat⟩ := (HT.out.below (HB.out.mono hB)) (fun e => by rw [e] at hcl; simp at hcl)
    obtain ⟨c0, c1⟩ := hat i q hi
    obtain ⟨lo, hi2⟩ := q
    simp only at c0 c1
    have HQ := Lib.hid hi
    have hbw : b < wr.heap.size := by omega
    have hgw : wr.cell? ⟨g, 0, none⟩ = some (.int .i64 r) := (HB.out.cell (p := ⟨g, 0, none⟩) hgl).trans hg
    have HC := Lib.hid (inside_any r lo hi2 g wr hgw (by omega))
    obtain ⟨D, hD⟩ : ∃ D, inR r (lo, hi2) = D := ⟨_, rfl⟩
    have HD := Lib.hid hD
    rw [hD] at HC
    clear hat hcl hi hD hgw
    go_wp2_with fail
    refine HC.out.mono ?_
    rintro e1 w1 ⟨rfl, hb1⟩
    have HB1 := Lib.hid (below_trans HB.out hb1)
    clear hb1
    cases D with
    | true =>
      have HF : Hid (R = true) := by show _ = _; rw [← HR.out]; exact any_hit HQ.out HD.out
      go_wp2_with fail
      go_returns
      exact ⟨(i : Int), rfl, by rw [HF.out]; simp, by omega, by omega, HB1.out⟩
    | false =>
      have HG : Hid ((s.take (i + 1)).any (inR r) = false) := any_take HQ.out HI.out HD.out
      go_wp2_with fail
      go_roundw
      case rel => exact ⟨i + 1, by go_num, by omega, HB1.out, HG.out⟩
      case measure => simp [intOf] <;> omega
  · obtain rfl : i = n := by omega
    have HF : Hid (R = false) := by
      have := HI.out
      rw [List.take_of_length_le (by rw [HL.out]; omega), HR.out] at this
      exact this
    go_wp2_with fail
    go_returns
    exact ⟨-1, rfl, by rw [HF.out]; simp, by omega, by omega, HB.out⟩
set_option maxHeartbeats 400000 in
theorem contains_any (s : List (Int × Int)) (r : Int) (A : Option Addr) (n c B g : Nat) (w : World) (hr : RgR w B A s) (hB : B ≤ w.heap.size) (hl : s.length = n) (hn : n ≤ 1000) (hc : n ≤ c) (hg : w.cell? ⟨g, 0, none⟩ = some (.int .i64 r)) (hgl : g < w.heap.size) :
    Calls Try.prog 58 #[.slice A n c, .func (Fn.func 59) #[] #[.pointer (some ⟨g, 0, none⟩)]] w fun e w' => e = .returned (.bool (s.any (inR r))) ∧ Below w.heap.size w w' := by
  have HC := Lib.hid (index_any s r A n c B g w hr hB hl hn hc hg hgl)
  clear hr hB hl hg
  go_enter Try.func58, Try.ntmps58
  go_wp2_with fail
  refine HC.out.mono ?_
  rintro e1 w1 ⟨k, rfl, hk, hk1, hk2, hb1⟩
  have HB1 := Lib.hid hb1
  have HK := Lib.hid hk
  clear hb1 hk HC
  by_cases h : 0 ≤ k
  · go_wp2_with fail
    go_ret
    exact ⟨by rw [← HK.out]; simp [h], HB1.out⟩
  · go_wp2_with fail
    go_ret
    exact ⟨by rw [← HK.out]; simp [h], HB1.out⟩
set_option maxHeartbeats 400000 in
theorem setHas_any (s : List (Int × Int)) (r : Int) (A : Option Addr) (n c B : Nat) (w : World) (hr : RgR w B A s) (hB : B ≤ w.heap.size) (hl : s.length = n) (hn : n ≤ 1000) (hc : n ≤ c) :
    Calls Try.prog 44 #[.slice A n c, .int .i64 r] w fun e w' => e = .returned (.bool (hasS s r)) ∧ Below w.heap.size w w' := by
  by_cases h0 : 0 ≤ r
  · by_cases h1 : r ≤ 1114111
    · have hba := below_al (Below.refl w.heap.size w) (.cells #[.int .i64 r] 3)
      have HC := Lib.hid (contains_any s r A n c B w.heap.size (w.alloc (.cells #[.int .i64 r] 3)) (hr.below (hba.mono hB)) (Nat.le_trans hB hba.size) hl hn hc (by simp) (by simp))
      have HS : Hid (hasS s r = s.any (inR r)) := hasS_in h0 h1 s
      clear hba hr hl
      go_enter Try.func44, Try.ntmps44
      go_wp2_with fail
      refine HC.out.mono ?_
      rintro e1 w1 ⟨rfl, hb1⟩
      have HB1 := Lib.hid (below_trans (below_al (Below.refl w.heap.size w) (.cells #[.int .i64 r] 3)) hb1)
      clear hb1 HC
      go_wp2_with fail
      go_ret
      exact ⟨by rw [HS.out]; rfl, HB1.out⟩
    · rw [hasS_out (by omega)]
      go_enter Try.func44, Try.ntmps44
      go_wp2_with fail
      go_ret
      exact ⟨rfl, below_al (Below.refl _ _) _⟩
  · rw [hasS_out (by omega)]
    go_enter Try.func44, Try.ntmps44
    go_wp2_with fail
    go_ret
    exact ⟨rfl, below_al (Below.refl _ _) _⟩
end Go.Proofs.Ytjfkppbfckgckaa
