/-
  The contracts of the decoder's settle and take; no condition beyond those that each theorem states.
-/
import Derived.Test.YtoagjhhdijebmaaDec2
import Derived.Handy
namespace Go.Proofs.Ytoagjhhdijebmaa
open Go.RowKit Go.Rb
attribute [local irreducible] Go.wpQuiet

theorem bt_tail {w : World} {n c : Nat} {A : Option Addr} {l : List UInt8} (h : Own w 5 1 (.slice A n c) n (l.map bV)) (k : Nat) (hk : k ≤ n) :
    ∃ A' c', (∀ W, (Instr.slice 22 (.slice A n c) (some (.int .i64 (k : Int))) none none).run Try.prog W = .ok (.slice A' (n - k) c') W) ∧ Own w 5 1 (.slice A' (n - k) c') (n - k) ((l.drop k).map bV) ∧ (∀ b, (Value.slice A' (n - k) c').ownBlock = some b → (Value.slice A n c).ownBlock = some b) := by
  obtain ⟨A', c', h1, h2, h3, -⟩ := own_tail (P := Try.prog) 22 (by kernel_rfl) (fun _ => by kernel_rfl) h k hk
  rw [Nat.mul_one, ← List.map_drop] at h2
  exact ⟨A', c', h1, h2, h3⟩
/-- What is held lies below block B. -/
def RepL (B : Nat) (w : World) (p : Nat) (s : DS) : Prop := ∃ v, Blk w p 43 #[.int .i64 s.kind, .bool s.sure, v, .bool s.closed] ∧ Own w 5 1 v s.held.length (s.held.map bV) ∧ ∀ k, v.ownBlock = some k → k < B
theorem RepL.rep {B : Nat} {w : World} {p : Nat} {s : DS} (h : RepL B w p s) : Rep w p s := by obtain ⟨v, h1, h2, _⟩ := h; exact ⟨v, h1, h2⟩
theorem Rep.low {w : World} {p : Nat} {s : DS} (h : Rep w p s) : RepL w.heap.size w p s := by obtain ⟨v, h1, h2⟩ := h; exact ⟨v, h1, h2, fun k hk => h2.lt hk⟩
theorem RepL.below {B : Nat} {w w' : World} {p : Nat} {s : DS} (h : RepL B w p s) (hb : Below B w w') (hp : p < B) : RepL B w' p s := by
  obtain ⟨v, h1, h2, h3⟩ := h
  exact ⟨v, h1.below hb hp, h2.below hb h3, h3⟩
def WentL (B : Nat) (w : World) (p : Nat) (s' : DS) (w' : World) : Prop := Only (fun k => k = p) w w' ∧ RepL B w' p s'
def mkK (b : List UInt8) : Int × Int := if (markP b).2 = 0 then (1, 0) else markP b
theorem markP_bd (b : List UInt8) : 0 ≤ (markP b).2 ∧ (markP b).2 ≤ b.length ∧ ((markP b).2 ≠ 0 → okK (markP b).1) := by
  unfold markP
  split
  · rename_i h
    have := (prefB_iff b mk1).1 h
    have := this.length_le
    refine ⟨by decide, by simp [mk1] at this; show (3 : Int) ≤ _; omega, fun _ => .inl rfl⟩
  · split
    · rename_i h
      have := (prefB_iff b mk2).1 h
      have := this.length_le
      refine ⟨by decide, by simp [mk2] at this; show (2 : Int) ≤ _; omega, fun _ => .inr (.inl rfl)⟩
    · split
      · rename_i h
        have := (prefB_iff b mk3).1 h
        have := this.length_le
        refine ⟨by decide, by simp [mk3] at this; show (2 : Int) ≤ _; omega, fun _ => .inr (.inr rfl)⟩
      · exact ⟨by decide, by simp, fun h => absurd rfl h⟩
theorem mkK_ok (b : List UInt8) : okK (mkK b).1 ∧ 0 ≤ (mkK b).2 ∧ (mkK b).2 ≤ b.length := by
  have h := markP_bd b
  unfold mkK
  split
  · exact ⟨.inl rfl, by decide, by simp⟩
  · rename_i h0
    exact ⟨h.2.2 h0, h.1, h.2.1⟩
def settleS (all : Bool) (s : DS) : DS := if s.sure = true then s else if (!all && !sureB s.held) = true then s else { s with kind := (mkK s.held).1, sure := true, held := s.held.drop (mkK s.held).2.toNat }
def takeS (all : Bool) (s : DS) : List UInt8 × DS :=
  if (settleS all s).sure = true then ((D (settleS all s).kind all (settleS all s).held).1, { settleS all s with held := (D (settleS all s).kind all (settleS all s).held).2 }) else ([], settleS all s)
def WfS (s : DS) : Prop := s.sure = true → okK s.kind
theorem settle_wf (all : Bool) (s : DS) (h : WfS s) : WfS (settleS all s) := by
  unfold settleS
  split
  · exact h
  · split
    · exact h
    · exact fun _ => (mkK_ok s.held).1
theorem settle_len (all : Bool) (s : DS) : (settleS all s).held.length ≤ s.held.length := by
  unfold settleS
  split
  · exact Nat.le_refl _
  · split
    · exact Nat.le_refl _
    · simp
theorem rep_set {B : Nat} {w w2 : World} {p : Nat} {s : DS} {v v' : Value} {l : List UInt8} (k : Int) (hb : Blk w2 p 43 #[.int .i64 s.kind, .bool s.sure, v, .bool s.closed]) (hv : Own w2 5 1 v' l.length (l.map bV)) (ho : Only (fun k => k = p) w w2) (hlow : ∀ k, v'.ownBlock = some k → k < B) :
    WentL B w p ⟨k, true, l, s.closed⟩ (((w2.setCell ⟨p, 0, none⟩ (.int .i64 k)).setCell ⟨p, 1, none⟩ (.bool true)).setCell ⟨p, 2, none⟩ v') := by
  have hne := own_ne_blk' hv hb (by decide)
  refine ⟨((ho.setCell (p := ⟨p, 0, none⟩) (fun _ => rfl) _).setCell (p := ⟨p, 1, none⟩) (fun _ => rfl) _).setCell (p := ⟨p, 2, none⟩) (fun _ => rfl) _, v', ?_, ((hv.setCell (p := ⟨p, 0, none⟩) hne _).setCell (p := ⟨p, 1, none⟩) hne _).setCell (p := ⟨p, 2, none⟩) hne _, hlow⟩
  have := ((hb.set_ 0 (.int .i64 k)).set_ 1 (.bool true)).set_ 2 v'
  simpa using this
theorem rep_held {B : Nat} {w w2 : World} {p : Nat} {s : DS} {v v' : Value} {l : List UInt8} (hb : Blk w2 p 43 #[.int .i64 s.kind, .bool s.sure, v, .bool s.closed]) (hv : Own w2 5 1 v' l.length (l.map bV)) (ho : Only (fun k => k = p) w w2) (hlow : ∀ k, v'.ownBlock = some k → k < B) :
    WentL B w p { s with held := l } (w2.setCell ⟨p, 2, none⟩ v') := by
  have hne := own_ne_blk' hv hb (by decide)
  refine ⟨ho.setCell (p := ⟨p, 2, none⟩) (fun _ => rfl) _, v', ?_, hv.setCell (p := ⟨p, 2, none⟩) hne _, hlow⟩
  have := hb.set_ 2 v'
  simpa using this
theorem only_below {w w' : World} {p : Nat} (h : Below w.heap.size w w') : Only (fun k => k = p) w w' := (Only.of_below h).mono (fun k hk hk2 => by omega)
set_option maxRecDepth 20000 in
set_option maxHeartbeats 4000000 in
theorem settle_any {B p : Nat} {s : DS} (all : Bool) (w : World) (h : RepL B w p s) (hpB : p < B) (hBw : B ≤ w.heap.size) (hl : s.held.length ≤ 100000) :
    Calls Try.prog 26 #[pp p, .bool all] w fun e w' => e = .returned (.tuple #[]) ∧ WentL B w p (settleS all s) w' := by
  have HH := Lib.hid h
  obtain ⟨v, hb, hv, h3⟩ := h
  obtain ⟨A, c, rfl, hc, -⟩ := hv.len_
  have H3 := Lib.hid h3
  clear h3
  have c1 := hb.cell 1
  have c2 := hb.cell 2
  simp only [List.getElem?_toArray, List.getElem?_cons_zero, List.getElem?_cons_succ] at c1 c2
  have hpl := hb.lt
  by_cases hs : s.sure = true
  · have hS : settleS all s = s := by unfold settleS; rw [if_pos hs]
    rw [hS]
    rw [hs] at c1
    clear hb hv hS hs
    unfold pp
    go_enter Try.func26, Try.ntmps26
    go_wp2_with fail
    go_returns
    exact ⟨rfl, Only.refl _ _, HH.out⟩
  · have hs' : s.sure = false := by simpa using hs
    have HSU := Lib.hid (sure_any s.held A s.held.length c w.heap.size w hv.rd hc (Nat.le_refl _))
    have HBK := Lib.hid (fun W (hW : Below w.heap.size w W) => hb.below hW hb.lt)
    have HVK := Lib.hid (fun W (hW : Below w.heap.size w W) => hv.below hW (fun k hk => hv.lt hk))
    have HMK := Lib.hid (fun W (hW : Below w.heap.size w W) => mark_any s.held A s.held.length c w.heap.size W (hv.rd.below hW) hc hW.size)
    rw [hs'] at c1
    by_cases hq : (!all && !sureB s.held) = true
    · have hS : settleS all s = s := by unfold settleS; rw [if_neg hs, if_pos hq]
      rw [hS]
      have ha : all = false := by cases all; rfl; simp at hq
      have hsb : sureB s.held = false := by rw [ha] at hq; simpa using hq
      subst ha
      rw [hsb] at HSU
      clear hb hv hS hs hs' hq hsb HBK HVK HMK
      unfold pp
      go_enter Try.func26, Try.ntmps26
      go_wp2_with (go_at_call 33; refine HSU.out.mono ?_; rintro e1 w1 ⟨rfl, hb1⟩; have HB1 := Lib.hid hb1; clear hb1)
      go_returns
      exact ⟨rfl, only_below HB1.out, HH.out.below (HB1.out.mono hBw) hpB⟩
    · have hS : settleS all s = { s with kind := (mkK s.held).1, sure := true, held := s.held.drop (mkK s.held).2.toNat } := by unfold settleS; rw [if_neg hs, if_neg hq]
      have hmb := mkK_ok s.held
      have hmd : mkK s.held = if (markP s.held).2 = 0 then (1, 0) else markP s.held := rfl
      obtain ⟨mk, hmk⟩ : ∃ m, mkK s.held = m := ⟨_, rfl⟩
      obtain ⟨mp, hmp⟩ : ∃ m, markP s.held = m := ⟨_, rfl⟩
      rw [hmk] at hS hmb hmd
      rw [hmp] at hmd HMK
      obtain ⟨m1, m2⟩ := mp
      simp only at hmd HMK
      have hcall : all = true ∨ (all = false ∧ sureB s.held = true) := by
        cases all
        · right; simp at hq; exact ⟨rfl, hq⟩
        · left; rfl
      obtain ⟨k, hk⟩ := Int.eq_ofNat_of_zero_le hmb.2.1
      have hkl : k ≤ s.held.length := by have := hmb.2.2; omega
      obtain ⟨A', c', hsl, hown, hlow⟩ := bt_tail hv k hkl
      have hlow2 : ∀ b, (Value.slice A' (s.held.length - k) c').ownBlock = some b → b < B := fun b hb => H3.out b (hlow b hb)
      have hlow0 : ∀ b, (Value.slice A s.held.length c).ownBlock = some b → b < B := fun b hb => H3.out b hb
      have HOW := Lib.hid (fun W (hW : Below w.heap.size w W) => hown.below hW (fun k hk => hown.lt hk))
      have HSL := Lib.hid hsl
      have hlen : (s.held.drop k).length = s.held.length - k := by simp
      obtain ⟨mk1', mk2'⟩ := mk
      simp only at hk hS hmb
      subst hk
      rw [Int.toNat_natCast] at hS
      rw [hS]
      have HF : Hid (∀ w1, Below w.heap.size w w1 → WentL B w p ⟨mk1', true, s.held.drop k, s.closed⟩ (((w1.setCell ⟨p, 0, none⟩ (.int .i64 mk1')).setCell ⟨p, 1, none⟩ (.bool true)).setCell ⟨p, 2, none⟩ (.slice A' (s.held.length - k) c'))) := fun w1 h1 =>
        rep_set (s := s) mk1' (HBK.out w1 h1) (by rw [hlen]; exact HOW.out w1 h1) (only_below h1) hlow2
      have HCK : Hid (∀ w1, Below w.heap.size w w1 → w1.cell? ⟨p, 0, none⟩ = some (.int .i64 s.kind) ∧ w1.cell? ⟨p, 1, none⟩ = some (.bool s.sure) ∧ w1.cell? ⟨p, 2, none⟩ = some (.slice A s.held.length c) ∧ w1.frozen? ⟨p, 0, none⟩ = false ∧ w1.frozen? ⟨p, 1, none⟩ = false ∧ w1.frozen? ⟨p, 2, none⟩ = false) := fun w1 h1 => by
        have hb := HBK.out w1 h1
        exact ⟨by rw [hb.cell]; rfl, by rw [hb.cell]; rfl, by rw [hb.cell]; rfl, hb.frozen 0, hb.frozen 1, hb.frozen 2⟩
      have hcs : (m2 = 0 ∧ mk1' = 1 ∧ k = 0) ∨ ((m2 == 0) = false ∧ mk1' = m1 ∧ m2 = (k : Int)) := by
        by_cases h0 : m2 = 0
        · rw [if_pos h0] at hmd
          simp only [Prod.mk.injEq] at hmd
          exact .inl ⟨h0, hmd.1, by omega⟩
        · rw [if_neg h0] at hmd
          simp only [Prod.mk.injEq] at hmd
          exact .inr ⟨by simpa using h0, hmd.1, hmd.2.symm⟩
      have HF0 : Hid (∀ w1, Below w.heap.size w w1 → WentL B w p ⟨1, true, s.held.drop 0, s.closed⟩ (((w1.setCell ⟨p, 0, none⟩ (.int .i64 1)).setCell ⟨p, 1, none⟩ (.bool true)).setCell ⟨p, 2, none⟩ (.slice A s.held.length c))) := fun w1 h1 =>
        rep_set (s := s) 1 (HBK.out w1 h1) (by rw [List.drop_zero]; exact HVK.out w1 h1) (only_below h1) hlow0
      have HKL := Lib.hid hkl
      clear hb hv hs hs' hq hS hmb hmd hmk hmp hsl hown hlen HBK HVK HOW HH hkl hlow hlow2 hlow0
      rcases hcs with ⟨rfl, rfl, rfl⟩ | ⟨hm0, rfl, rfl⟩
      · rcases hcall with rfl | ⟨rfl, hsb⟩
        · generalize s.held.length = n at *
          unfold pp
          go_enter Try.func26, Try.ntmps26
          go_wp2_with (first
            | (go_at_call 34; refine (HMK.out _ (Below.refl _ _)).mono ?_; rintro e1 w1 ⟨rfl, hb1⟩; have HB1 := Lib.hid hb1; obtain ⟨d0, d1, d2, f0, f1, f2⟩ := HCK.out _ HB1.out; clear hb1))
          go_end0
          exact ⟨rfl, HF0.out _ HB1.out⟩
        · rw [hsb] at HSU
          clear hsb
          generalize s.held.length = n at *
          unfold pp
          go_enter Try.func26, Try.ntmps26
          go_wp2_with (first
            | (go_at_call 33; refine HSU.out.mono ?_; rintro e0 w0 ⟨rfl, hb0⟩; have HB0 := Lib.hid hb0; obtain ⟨d0, d1, d2, f0, f1, f2⟩ := HCK.out _ HB0.out; clear hb0)
            | (go_at_call 34; refine (HMK.out _ HB0.out).mono ?_; rintro e1 w1 ⟨rfl, hb1⟩; have HB1 := Lib.hid (below_trans HB0.out hb1); obtain ⟨d0, d1, d2, f0, f1, f2⟩ := HCK.out _ HB1.out; clear hb1))
          go_end0
          exact ⟨rfl, HF0.out _ HB1.out⟩
      · rcases hcall with rfl | ⟨rfl, hsb⟩
        · generalize s.held.length = n at *
          unfold pp
          go_enter Try.func26, Try.ntmps26
          go_wp2_with (first
            | (go_at_call 34; refine (HMK.out _ (Below.refl _ _)).mono ?_; rintro e1 w1 ⟨rfl, hb1⟩; have HB1 := Lib.hid hb1; obtain ⟨d0, d1, d2, f0, f1, f2⟩ := HCK.out _ HB1.out; have hsl := HSL.out; clear hb1))
          go_end0
          exact ⟨rfl, HF.out _ HB1.out⟩
        · rw [hsb] at HSU
          clear hsb
          generalize s.held.length = n at *
          unfold pp
          go_enter Try.func26, Try.ntmps26
          go_wp2_with (first
            | (go_at_call 33; refine HSU.out.mono ?_; rintro e0 w0 ⟨rfl, hb0⟩; have HB0 := Lib.hid hb0; obtain ⟨d0, d1, d2, f0, f1, f2⟩ := HCK.out _ HB0.out; clear hb0)
            | (go_at_call 34; refine (HMK.out _ HB0.out).mono ?_; rintro e1 w1 ⟨rfl, hb1⟩; have HB1 := Lib.hid (below_trans HB0.out hb1); obtain ⟨d0, d1, d2, f0, f1, f2⟩ := HCK.out _ HB1.out; have hsl := HSL.out; clear hb1))
          go_end0
          exact ⟨rfl, HF.out _ HB1.out⟩
end Go.Proofs.Ytoagjhhdijebmaa
