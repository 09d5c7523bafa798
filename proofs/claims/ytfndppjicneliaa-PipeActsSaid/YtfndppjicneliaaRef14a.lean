/-
  The document's pipe: how it lies in memory; the contracts of its functions at, Waits, Close; no condition beyond those that each theorem states.
-/
import Derived.Test.YtfndppjicneliaaPlain14
namespace Go.Proofs.Ytfndppjicneliaa
open Go.RowKit Go.Rb
attribute [local irreducible] Go.wpQuiet

structure RRA (w : World) (R : Nat → Prop) (q : Nat) (lv : Value) (r : Nat) (L : List Of) (c : Bool) (n : Int) : Prop where
  rb : Blk w q 49 #[lv, nV r, .bool c, .int .i64 n]
  lo : Own w 58 8 lv L.length (ocs L)
  rq : R q
  rl : ∀ k, lv.ownBlock = some k → R k
  lt : ∀ k, R k → k < w.heap.size
def RR (w : World) (R : Nat → Prop) (q : Nat) (r : Nat) (L : List Of) (c : Bool) (n : Int) : Prop := ∃ lv, RRA w R q lv r L c n
section
variable {w w' : World} {R R' T : Nat → Prop} {q r : Nat} {lv : Value} {L : List Of} {c : Bool} {n : Int}
theorem RRA.c0 (h : RRA w R q lv r L c n) : w.cell? ⟨q, 0, none⟩ = some lv := by rw [h.rb.cell]; rfl
theorem RRA.c1 (h : RRA w R q lv r L c n) : w.cell? ⟨q, 1, none⟩ = some (.int .i64 (r : Int)) := by rw [h.rb.cell]; rfl
theorem RRA.c2 (h : RRA w R q lv r L c n) : w.cell? ⟨q, 2, none⟩ = some (.bool c) := by rw [h.rb.cell]; rfl
theorem RRA.c3 (h : RRA w R q lv r L c n) : w.cell? ⟨q, 3, none⟩ = some (.int .i64 n) := by rw [h.rb.cell]; rfl
theorem RRA.fp (h : RRA w R q lv r L c n) (i : Nat) : w.frozen? ⟨q, i, none⟩ = false := h.rb.frozen i
theorem RRA.frame (h : RRA w R q lv r L c n) (hb : Only T w w') (hd : ∀ k, R k → ¬ T k) : RRA w' R q lv r L c n :=
  ⟨h.rb.only hb (hd _ h.rq), h.lo.only hb fun k hk => hd _ (h.rl k hk), h.rq, h.rl, fun k hk => Nat.lt_of_lt_of_le (h.lt k hk) hb.size⟩
theorem RRA.below (h : RRA w R q lv r L c n) (hb : Below w.heap.size w w') : RRA w' R q lv r L c n := h.frame (Only.of_below hb) fun k hk hh => by have := h.lt k hk; omega
theorem RRA.mono (h : RRA w R q lv r L c n) (hs : ∀ k, R k → R' k) (hl : ∀ k, R' k → k < w.heap.size) : RRA w R' q lv r L c n :=
  ⟨h.rb, h.lo, hs _ h.rq, fun k hk => hs _ (h.rl k hk), hl⟩
theorem RRA.setL (h : RRA w R q lv r L c n) (lv' : Value) (L' : List Of) (ho : Own w 58 8 lv' L'.length (ocs L')) (hs : ∀ k, lv'.ownBlock = some k → R k) : RRA (w.setCell ⟨q, 0, none⟩ lv') R q lv' r L' c n :=
  ⟨by simpa using h.rb.set_ 0 lv', ho.setCell (p := ⟨q, 0, none⟩) (own_ne_blk ho h.rb (by decide)) _, h.rq, hs, fun k hk => by simpa [World.setCell] using h.lt k hk⟩
theorem RRA.setC (h : RRA w R q lv r L c n) (c' : Bool) : RRA (w.setCell ⟨q, 2, none⟩ (.bool c')) R q lv r L c' n :=
  ⟨by simpa using h.rb.set_ 2 (.bool c'), h.lo.setCell (p := ⟨q, 2, none⟩) (own_ne_blk h.lo h.rb (by decide)) _, h.rq, h.rl, fun k hk => by simpa [World.setCell] using h.lt k hk⟩
theorem RRA.setN (h : RRA w R q lv r L c n) (n' : Int) : RRA (w.setCell ⟨q, 3, none⟩ (.int .i64 n')) R q lv r L c n' :=
  ⟨by simpa using h.rb.set_ 3 (.int .i64 n'), h.lo.setCell (p := ⟨q, 3, none⟩) (own_ne_blk h.lo h.rb (by decide)) _, h.rq, h.rl, fun k hk => by simpa [World.setCell] using h.lt k hk⟩
theorem RRA.at_ (h : RRA w R q lv r L c n) {i : Nat} (hi : i < L.length) : ∃ g off cap, lv = .slice (some ⟨g, off, none⟩) L.length cap ∧ L.length ≤ cap ∧ g < w.heap.size ∧ ∀ j, j < 8 → w.cell? ⟨g, off + i * 8 + j, none⟩ = (ofc L[i])[j]? := by
  obtain ⟨g, off, cap, e, hc, -, hg, hcell, -⟩ := h.lo.form (by omega)
  refine ⟨g, off, cap, e, hc, hg, fun j hj => ?_⟩
  rw [Nat.add_assoc, hcell (i * 8 + j) (by omega), ocs_get L i j hi hj]
end
/-- What a call has done. -/
def RWent (w : World) (R : Nat → Prop) (q : Nat) (r : Nat) (L : List Of) (c : Bool) (n : Int) (w' : World) : Prop := Only R w w' ∧ RR w' (fun k => R k ∨ (w.heap.size ≤ k ∧ k < w'.heap.size)) q r L c n
theorem RWent.of {w w' : World} {R : Nat → Prop} {q r : Nat} {lv : Value} {L : List Of} {c : Bool} {n : Int} (ho : Only R w w') (h : RRA w' R q lv r L c n) : RWent w R q r L c n w' :=
  ⟨ho, lv, h.mono (fun _ hk => .inl hk) fun k hk => by rcases hk with hk | hk; exact h.lt k hk; exact hk.2⟩
theorem RWent.of_new {w w' : World} {R : Nat → Prop} {q r : Nat} {lv : Value} {L : List Of} {c : Bool} {n : Int} (ho : Only R w w') (h : RRA w' (fun k => R k ∨ (w.heap.size ≤ k ∧ k < w'.heap.size)) q lv r L c n) : RWent w R q r L c n w' :=
  ⟨ho, lv, h⟩

/-- Where it is, in the whole line. -/
def ratI (r : Nat) (L : List Of) (who : Int) : Int := if 0 ≤ atI (L.drop r) who then (r : Int) + atI (L.drop r) who else -1
theorem ratI_ge (r : Nat) (L : List Of) (c : Bool) (n who : Int) : decide (0 ≤ ratI r L who) = waitsO (GS r L c n) who := by
  unfold ratI waitsO
  show _ = decide (0 ≤ atI (L.drop r) who)
  by_cases h : 0 ≤ atI (L.drop r) who
  · rw [if_pos h, decide_eq_true h, decide_eq_true (by omega)]
  · rw [if_neg h, decide_eq_false h]; rfl
theorem ratI_some {r : Nat} {L : List Of} {who : Int} {i : Nat} (hr : r ≤ i) (hi : i < L.length) (h : L[i].1 = who) (hno : ∀ k, (hk : k < L.length) → r ≤ k → k < i → L[k].1 ≠ who) : ratI r L who = (i : Int) := by
  have hl : i - r < (L.drop r).length := by simp; omega
  have h1 : (L.drop r)[i - r]'hl = L[i] := by
    rw [List.getElem_drop]
    congr 1
    omega
  have e := atI_some (l := L.drop r) (who := who) hl (by rw [h1]; exact h) (fun k hk hki => by
    have hk' := hk
    rw [List.length_drop] at hk'
    rw [List.getElem_drop]
    exact hno (r + k) (by omega) (by omega) (by omega))
  unfold ratI
  rw [e, if_pos (by omega)]
  omega
theorem ratI_none {r : Nat} {L : List Of} {who : Int} (hno : ∀ k, (hk : k < L.length) → r ≤ k → L[k].1 ≠ who) : ratI r L who = -1 := by
  unfold ratI
  rw [atI_none (fun k hk => by have hk' := hk; rw [List.length_drop] at hk'; rw [List.getElem_drop]; exact hno _ (by omega) (by omega))]
  rfl
set_option maxHeartbeats 2000000 in
theorem rat_any {R : Nat → Prop} {q r : Nat} {L : List Of} {c : Bool} {n : Int} (who : Int) (w : World) (hR : RR w R q r L c n) (hn : L.length ≤ 1000000) (hr : r ≤ 1000) :
    Calls Try.prog 29 #[pp q, .int .i64 who] w fun e w' => e = .returned (.int .i64 (ratI r L who)) ∧ w = w' := by
  obtain ⟨lv, h⟩ := hR
  have HH := Lib.hid h
  have c0 := h.c0
  have c1 := h.c1
  obtain ⟨Al, cl, rfl, -, -⟩ := h.lo.len_
  clear h
  unfold pp
  go_enter Try.func29, Try.ntmps29
  go_wp2_with fail
  go_loopw [5] (fun jv wr => ∃ i : Nat, r ≤ i ∧ i ≤ L.length + r ∧ jv = .int .i64 i ∧ Hid (∀ k, (hk : k < L.length) → r ≤ k → k < i → L[k].1 ≠ who) ∧ wr = w) (fun jv _ => L.length + r - (intOf jv).toNat)
  case atStart => exact ⟨r, by omega, by omega, rfl, (fun k hk h1 h2 => by omega), rfl⟩
  case round =>
    obtain ⟨i, hri, hi, rfl, hno, rfl⟩ := hrel
    by_cases hlt : i < L.length
    · have i1 : (i : Int) < (L.length : Int) := by omega
      obtain ⟨gl, ol, cl', e, -, -, kk⟩ := HH.out.at_ hlt
      simp only [Value.slice.injEq] at e
      obtain ⟨rfl, -, rfl⟩ := e
      have k0 := kk 0 (by omega)
      simp only [ofc, List.getElem?_cons_zero, Nat.add_zero] at k0
      clear kk
      by_cases ho : L[i].1 = who
      · have HE := Lib.hid (ratI_some hri hlt ho hno.out)
        have hb : (L[i].1 == who) = true := by rw [beq_iff_eq]; exact ho
        generalize L[i].1 = x at *
        clear ho
        go_wp2_with fail
        go_ret
        exact ⟨by rw [HE.out]; rfl, rfl⟩
      · have HE : Hid (∀ k, (hk : k < L.length) → r ≤ k → k < i + 1 → L[k].1 ≠ who) := fun k hk h1 h2 => by
          by_cases e2 : k = i
          · subst e2; exact ho
          · exact hno.out k hk h1 (by omega)
        have hb : (L[i].1 == who) = false := by rw [beq_eq_false_iff_ne]; exact ho
        generalize L[i].1 = x at *
        clear ho
        go_wp2_with fail
        go_roundw
        case rel => exact ⟨i + 1, by omega, by omega, by go_num, HE.out, by simp⟩
        case measure => simp [intOf]; omega
    · have HY : Hid (ratI r L who = -1) := ratI_none fun k hk h1 => hno.out k hk h1 (by omega)
      have i1 : ¬ (i : Int) < (L.length : Int) := by omega
      go_wp2_with fail
      go_ret
      exact ⟨by rw [HY.out]; rfl, rfl⟩
set_option maxHeartbeats 1000000 in
theorem rwaits_any {R : Nat → Prop} {q r : Nat} {L : List Of} {c : Bool} {n : Int} (who : Int) (w : World) (hR : RR w R q r L c n) (hn : L.length ≤ 1000000) (hr : r ≤ 1000) :
    Calls Try.prog 23 #[pp q, .int .i64 who] w fun e w' => e = .returned (.bool (waitsO (GS r L c n) who)) ∧ w = w' := by
  have HA := Lib.hid (rat_any who w hR hn hr)
  have hg := ratI_ge r L c n who
  clear hR
  generalize waitsO (GS r L c n) who = d at *
  generalize ratI r L who = z at *
  unfold pp at HA ⊢
  go_enter Try.func23, Try.ntmps23
  go_wp2_with (go_at_call 29; refine HA.out.mono ?_; rintro e1 w1 ⟨rfl, rfl⟩)
  go_ret
  exact ⟨by rw [← hg]; rfl, rfl⟩
set_option maxHeartbeats 1000000 in
theorem rclose_any {R : Nat → Prop} {q r : Nat} {L : List Of} {c : Bool} {n : Int} (w : World) (hR : RR w R q r L c n) :
    Calls Try.prog 22 #[pp q] w fun e w' => e = .returned (.int .i64 (closeE (GS r L c n))) ∧ RWent w R q r L (c || decide (L.length ≤ r)) n w' := by
  obtain ⟨lv, h⟩ := hR
  have c0 := h.c0
  have c1 := h.c1
  have c2 := h.c2
  have f2 := h.fp 2
  have hql := h.lt _ h.rq
  obtain ⟨Al, cl, rfl, -, -⟩ := h.lo.len_
  rw [gs_close]
  have key0 : Hid (∀ W, Below w.heap.size w W → RWent w R q r L c n W) := fun W hb => RWent.of (Only.of_below hb |>.mono fun k hk hh => by omega) (h.below hb)
  have key1 : Hid (∀ m, RWent w R q r L true n ((w.drewN m).setCell ⟨q, 2, none⟩ (.bool true))) := fun m => RWent.of (((Only.of_below (below_drewN (B := w.heap.size) (Below.refl _ _) m)).mono fun k hk hh => by omega).setCell (p := ⟨q, 2, none⟩) (fun _ => h.rq) _) ((h.below (below_drewN (Below.refl _ _) m)).setC true)
  clear h
  unfold pp
  cases c with
  | true =>
    rw [Bool.true_or]
    go_enter Try.func22, Try.ntmps22
    go_wp2
    go_ret
    exact ⟨rfl, key0.out _ (Below.refl _ _)⟩
  | false =>
    rw [Bool.false_or]
    simp only [Bool.false_eq_true, if_false]
    generalize L.length = m at *
    by_cases hz : r < m
    · have i1 : (r : Int) < (m : Int) := by omega
      rw [if_pos hz, decide_eq_false (by omega : ¬ m ≤ r)]
      go_enter Try.func22, Try.ntmps22
      go_wp2_with fail
      go_quiet (fail)
      go_wp2_with fail
      go_ret
      exact ⟨rfl, key0.out _ (below_drewN (Below.refl _ _) _)⟩
    · have i1 : ¬ (r : Int) < (m : Int) := by omega
      rw [if_neg hz, decide_eq_true (by omega : m ≤ r)]
      go_enter Try.func22, Try.ntmps22
      go_wp2_with fail
      go_quiet (fail)
      go_wp2_with fail
      go_ret
      exact ⟨rfl, key1.out _⟩
end Go.Proofs.Ytfndppjicneliaa
