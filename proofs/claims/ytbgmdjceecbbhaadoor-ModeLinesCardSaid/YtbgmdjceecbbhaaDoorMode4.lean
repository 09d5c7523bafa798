/-
  The laid table, numbers, a teller's state and how it lies, New, Enough, Held; no condition beyond those that each theorem states.
-/
import Derived.Test.YtbgmdjceecbbhaaDoorMode3
import Derived.Test.YtbgmdjceecbbhaaDoorShelf
import Derived.Lib.SmallJoins
namespace Go.Proofs.YtbgmdjceecbbhaaDoor
open Go.RowKit Go.Rb
attribute [local irreducible] Go.wpQuiet

/-- The table of powers lies as it was laid. -/
def Tb (w : World) : Prop := Lib.TabIs Tryd.prog w "internal/strconv.uint64pow10" .u64 Lib.pow10Tab
theorem gTab : Tryd.prog.globalNamed "internal/strconv.uint64pow10" = some 0 := by kernel_rfl
theorem Tb.lt {w : World} (h : Tb w) : 0 < w.heap.size := by
  unfold Tb Lib.TabIs World.var? at h
  rw [gTab] at h
  simp only [Option.bind_some] at h
  rcases Nat.lt_or_ge 0 w.heap.size with h' | h'
  · exact h'
  · rw [Array.getElem?_eq_none h'] at h; cases h
theorem Tb.block {w w' : World} (h : Tb w) (e : w'.heap[0]? = w.heap[0]?) : Tb w' := by
  unfold Tb Lib.TabIs World.var? at h ⊢
  rw [gTab] at h ⊢
  simp only [Option.bind_some] at h ⊢
  rw [e]; exact h
theorem Tb.below {B : Nat} {w w' : World} (h : Tb w) (hb : Below B w w') (hB : 0 < B) : Tb w' := h.block (hb.block 0 hB)
theorem Tb.below' {w w' : World} (h : Tb w) (hb : Below w.heap.size w w') : Tb w' := h.below hb h.lt
theorem Tb.only {S : Nat → Prop} {w w' : World} (h : Tb w) (hb : Only S w w') (hs : ¬ S 0) : Tb w' := h.block (hb.block 0 h.lt hs)
theorem Tb.drew {w : World} (h : Tb w) : Tb w.drew := h.block rfl
theorem Tb.alloc {w : World} (h : Tb w) (o : Obj) : Tb (w.alloc o) := h.below' (below_al (Below.refl _ w) o)
/-- Whole numbers of 64 bits. -/
def I64 (n : Int) : Prop := -9223372036854775808 ≤ n ∧ n ≤ 9223372036854775807

theorem below_grow_ {B : Nat} (w : World) (os : Array Obj) (hB : B ≤ w.heap.size) : Below B w (Go.Sort.grow w os) :=
  ⟨rfl, rfl, rfl, by simp [Go.Sort.grow], fun i hi => by
    show (w.heap ++ os)[i]? = _
    rw [Array.getElem?_append_left (by omega)]⟩
theorem number_any (n : Int) (hn : I64 n) (w : World) (hT : Tb w) :
    Calls Tryd.prog 22 #[.int .i64 n] w fun e w' => e = .returned (.string (mk (Lib.itoa n))) ∧ Below w.heap.size w w' := by
  have HI := Lib.hid (Go.Proofs.Tryd.strconv_Itoa n hn.1 hn.2 w hT)
  clear hn
  unfold mk
  go_enter Tryd.func22, Tryd.ntmps22
  go_wp2_with (go_at_call 27; refine HI.out.mono ?_; rintro e1 w1 ⟨rfl, k, os, rfl⟩)
  go_ret
  exact ⟨rfl, (below_drewN (Below.refl _ w) k).trans (below_grow_ _ os (Nat.le_refl _))⟩

/-- A teller. -/
structure Ts where
  tell : Int
  before : Int
  after : Int
  records : Int
  hits : Int
  held : List Rc
  more : Int
  last : Int
  any : Bool
  over : Bool
  enough : Bool
def tsc (s : Ts) (hv : Value) : Array Value := #[.int .i64 s.tell, .int .i64 s.before, .int .i64 s.after, .int .i64 s.records, .int .i64 s.hits, hv, .int .i64 s.more, .int .i64 s.last, .bool s.any, .bool s.over, .bool s.enough]
def Tr (w : World) (p : Nat) (s : Ts) (hv : Value) : Prop := Blk w p 53 (tsc s hv) ∧ Own w 29 3 hv s.held.length (rcs s.held)
def new_ (tell before after : Int) : Ts := ⟨tell, before, after, 0, 0, [], 0, 0, false, false, false⟩
theorem enough_any (w : World) (p : Nat) (s : Ts) (hv : Value) (h : Tr w p s hv) :
    Calls Tryd.prog 14 #[pp p] w fun e w' => e = .returned (.bool s.enough) ∧ w' = w := by
  have c10 := h.1.cell 10
  simp only [tsc, List.getElem?_toArray, List.getElem?_cons_succ, List.getElem?_cons_zero] at c10
  obtain ⟨b, hb⟩ : ∃ b, s.enough = b := ⟨_, rfl⟩
  rw [hb] at c10 ⊢
  clear h hb
  unfold pp
  go_enter Tryd.func14, Tryd.ntmps14
  go_wp2_with fail
  go_ret
  exact ⟨rfl, rfl⟩
set_option maxRecDepth 20000 in
set_option maxHeartbeats 2000000 in
theorem new_ok (tell before after : Int) (h0 : 0 ≤ tell) (h1 : tell ≤ 3) (h2 : 0 ≤ before) (h3 : before ≤ 16) (h4 : 0 ≤ after) (h5 : after ≤ 16) (w : World) :
    Calls Tryd.prog 8 #[.int .i64 tell, .int .i64 before, .int .i64 after] w fun e w' => e = .returned (.tuple #[pp w.heap.size, .int .i64 0]) ∧ Tr w' w.heap.size (new_ tell before after) (.slice none 0 0) ∧ Below w.heap.size w w' ∧ w.heap.size < w'.heap.size := by
  have F1 : decide (before < 0) = false := decide_eq_false (by omega)
  have F2 : decide (16 < before) = false := decide_eq_false (by omega)
  have F3 : decide (after < 0) = false := decide_eq_false (by omega)
  have F4 : decide (16 < after) = false := decide_eq_false (by omega)
  have F5 : decide (tell < 0) = false := decide_eq_false (by omega)
  have F6 : decide (3 < tell) = false := decide_eq_false (by omega)
  have ix0 : ∀ w, (Instr.index 50 (.agg #[.int .i64 before, .int .i64 after]) (.int .i64 0)).run Tryd.prog w = .ok (.int .i64 before) w := fun w => by kernel_rfl
  have ix1 : ∀ w, (Instr.index 50 (.agg #[.int .i64 before, .int .i64 after]) (.int .i64 1)).run Tryd.prog w = .ok (.int .i64 after) w := fun w => by kernel_rfl
  go_enter Tryd.func8, Tryd.ntmps8
  go_wp2_with fail
  go_loopw [13] (fun iv wr => ∃ i : Nat, i ≤ 2 ∧ iv = .int .i64 i ∧ wr = w) (fun iv _ => 2 - (intOf iv).toNat)
  case atStart => exact ⟨0, by omega, rfl, rfl⟩
  case round =>
    obtain ⟨i, hi, rfl, rfl⟩ := hrel
    rcases (by omega : i = 0 ∨ i = 1 ∨ i = 2) with rfl | rfl | rfl
    · go_wp2_with fail
      go_roundw
      case rel => exact ⟨1, by omega, rfl, trivial⟩
      case measure => simp [intOf]
    · go_wp2_with fail
      go_roundw
      case rel => exact ⟨2, by omega, rfl, trivial⟩
      case measure => simp [intOf]
    · go_wp2_with fail
      go_ret2
      exact ⟨rfl, ⟨Blk.new _ _ _, Own.nil_ _ _ _⟩, below_al (Below.refl _ _) _, by simp⟩
set_option maxRecDepth 20000 in
set_option maxHeartbeats 2000000 in
theorem new_bad (tell before after : Int) (h : tell < 0 ∨ 3 < tell ∨ before < 0 ∨ 16 < before ∨ after < 0 ∨ 16 < after) (w : World) :
    Calls Tryd.prog 8 #[.int .i64 tell, .int .i64 before, .int .i64 after] w fun e w' => e = .returned (.tuple #[.pointer none, .int .i64 2]) ∧ w' = w := by
  have HH := Lib.hid h
  clear h
  have ix0 : ∀ w, (Instr.index 50 (.agg #[.int .i64 before, .int .i64 after]) (.int .i64 0)).run Tryd.prog w = .ok (.int .i64 before) w := fun w => by kernel_rfl
  have ix1 : ∀ w, (Instr.index 50 (.agg #[.int .i64 before, .int .i64 after]) (.int .i64 1)).run Tryd.prog w = .ok (.int .i64 after) w := fun w => by kernel_rfl
  go_enter Tryd.func8, Tryd.ntmps8
  go_wp2_with fail
  go_loopw [13] (fun iv wr => ∃ i : Nat, i ≤ 2 ∧ iv = .int .i64 i ∧ wr = w ∧ (1 ≤ i → Hid (0 ≤ before ∧ before ≤ 16)) ∧ (2 ≤ i → Hid (0 ≤ after ∧ after ≤ 16))) (fun iv _ => 2 - (intOf iv).toNat)
  case atStart => exact ⟨0, by omega, rfl, rfl, fun h => absurd h (by omega), fun h => absurd h (by omega)⟩
  case round =>
    obtain ⟨i, hi, rfl, rfl, q1, q2⟩ := hrel
    rcases (by omega : i = 0 ∨ i = 1 ∨ i = 2) with rfl | rfl | rfl
    · clear q1 q2
      by_cases hb : before < 0
      · have F1 : decide (before < 0) = true := decide_eq_true hb
        clear hb
        go_wp2_with fail
        go_ret2
        exact ⟨rfl, rfl⟩
      · have F1 : decide (before < 0) = false := decide_eq_false hb
        by_cases hb2 : 16 < before
        · have F2 : decide (16 < before) = true := decide_eq_true hb2
          clear hb hb2
          go_wp2_with fail
          go_ret2
          exact ⟨rfl, rfl⟩
        · have F2 : decide (16 < before) = false := decide_eq_false hb2
          have HB : Hid (0 ≤ before ∧ before ≤ 16) := ⟨by omega, by omega⟩
          clear hb hb2
          go_wp2_with fail
          go_roundw
          case rel => exact ⟨1, by omega, rfl, trivial, fun _ => HB, fun h => absurd h (by omega)⟩
          case measure => simp [intOf]
    · have Q1 := q1 (by omega)
      clear q1 q2
      by_cases hb : after < 0
      · have F1 : decide (after < 0) = true := decide_eq_true hb
        clear hb
        go_wp2_with fail
        go_ret2
        exact ⟨rfl, rfl⟩
      · have F1 : decide (after < 0) = false := decide_eq_false hb
        by_cases hb2 : 16 < after
        · have F2 : decide (16 < after) = true := decide_eq_true hb2
          clear hb hb2
          go_wp2_with fail
          go_ret2
          exact ⟨rfl, rfl⟩
        · have F2 : decide (16 < after) = false := decide_eq_false hb2
          have HB : Hid (0 ≤ after ∧ after ≤ 16) := ⟨by omega, by omega⟩
          clear hb hb2
          go_wp2_with fail
          go_roundw
          case rel => exact ⟨2, by omega, rfl, trivial, fun _ => Q1, fun _ => HB⟩
          case measure => simp [intOf]
    · have HT : Hid (tell < 0 ∨ 3 < tell) := by
        have q1 := (q1 (by omega)).out
        have q2 := (q2 (by omega)).out
        rcases HH.out with h | h | h | h | h | h
        · exact .inl h
        · exact .inr h
        all_goals omega
      clear q1 q2
      by_cases hb : tell < 0
      · have F1 : decide (tell < 0) = true := decide_eq_true hb
        clear hb
        go_wp2_with fail
        go_ret2
        exact ⟨rfl, rfl⟩
      · have F1 : decide (tell < 0) = false := decide_eq_false hb
        have F2 : decide (3 < tell) = true := decide_eq_true (by rcases HT.out with h | h; exact absurd h hb; exact h)
        clear hb
        go_wp2_with fail
        go_ret2
        exact ⟨rfl, rfl⟩
end Go.Proofs.YtbgmdjceecbbhaaDoor
