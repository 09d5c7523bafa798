/-
  The walk of reedbedlaw04.CutsAgain: it returns true; no condition beyond those that each theorem states.
-/
import Derived.Test.YtkppgofiojddoaaPieces1
namespace Go.Proofs.Ytkppgofiojddoaa
open Go.RowKit Go.Rb

theorem cutF_most (zs : List Int) : ∀ (f i : Nat) (bs : List UInt8), ∀ p ∈ cutF zs f i bs, p.length ≤ 4096
  | 0, i, bs, p, hp => by simp [cutF] at hp
  | f + 1, i, bs, p, hp => by
    rw [cutF] at hp
    split at hp
    · simp at hp
    · rename_i h0
      have hl : 0 < bs.length := by cases bs <;> simp_all
      have hm := mOf_bd zs i bs.length hl
      rcases List.mem_cons.1 hp with rfl | hp
      · rw [List.length_take]; omega
      · exact cutF_most zs f _ _ p hp
theorem cutP_most (bs : List UInt8) (zs : List Int) (hz : zs ≠ []) : ∀ p ∈ cutP bs zs, p.length ≤ 4096 := by
  unfold cutP
  intro p hp
  split at hp
  · simp at hp
  · first
    | exact cutF_most zs _ _ _ p hp
    | (rw [if_neg hz] at hp; exact cutF_most zs _ _ _ p hp)
    | exact cutF_most zs _ _ _ p hp
theorem getD_mem (ps : List (List UInt8)) (k : Nat) (hk : k < ps.length) : ps.getD k [] ∈ ps := by
  have : ps.getD k [] = ps[k] := by simp [List.getD, List.getElem?_eq_getElem hk]
  rw [this]; exact List.getElem_mem hk

attribute [local irreducible] Go.wpQuiet

set_option maxHeartbeats 2000000 in
theorem again_small (bs : List UInt8) (ss zs : List Int) (A S Z : Option Addr) (n c l e m d : Nat) (w : World) (hr : Rd w w.heap.size 1 A n (bs.map bV)) (hs : Rd w w.heap.size 1 S l (ss.map iV)) (hz : Rd w w.heap.size 1 Z m (zs.map iV))
    (hn : n ≤ 300) (hc : n ≤ c) (hl : l ≤ 20) (he : l ≤ e) (hm : m ≤ 20) (hd : m ≤ d) :
    Calls Try.prog 5 #[.slice A n c, .slice S l e, .slice Z m d] w fun e w' => e = .returned (.bool true) ∧ Below w.heap.size w w' := by
  have hbl : bs.length = n := by simpa using hr.1
  have hzl : zs.length = m := by simpa using hz.1
  have hA : Hid (∀ w, Calls Try.prog 7 #[] w fun e w' => e = .returned (.bool true) ∧ Below w.heap.size w w') := awake_any
  have hpl := cutP_len bs zs
  have hpn := Lib.hid (cutP_ne bs zs)
  have hpm : Hid (0 < m → ∀ p ∈ cutP bs zs, p.length ≤ 4096) := fun h => cutP_most bs zs (by rintro rfl; simp at hzl; omega)
  have hp1 := cutP_len bs ss
  have hf1 := Lib.hid (cutP_flat bs ss)
  have hC1 : Hid (∀ X, Below w.heap.size w X → Calls Try.prog 11 #[.slice A n c, .slice S l e] X (RetNewP X (cutP bs ss))) := fun X hX => cut_any bs ss A S n c l e w.heap.size X (hr.below hX) (hs.below hX) (by omega) hc (by omega) hX.size
  have hC2 : Hid (∀ X, Below w.heap.size w X → Calls Try.prog 11 #[.slice A n c, .slice Z m d] X (RetNewP X (cutP bs zs))) := fun X hX => cut_any bs zs A Z n c m d w.heap.size X (hr.below hX) (hz.below hX) (by omega) hc (by omega) hX.size
  have hC3 : Hid (∀ X v, Below w.heap.size w X → Own X 5 1 v bs.length (bs.map bV) → Calls Try.prog 11 #[v, .slice Z m d] X (RetNewP X (cutP bs zs))) := by
    intro X v hX ho
    obtain ⟨A1, c1, rfl, hr1, hc1⟩ := Own.rd' ho
    exact cut_any bs zs A1 Z _ c1 m d X.heap.size X hr1 ((hz.below hX).more hX.size) (by omega) hc1 (by omega) (Nat.le_refl _)
  have hJ : Hid (∀ X v vs B0, Own X 27 1 v (cutP bs ss).length vs → Pcs X B0 vs (cutP bs ss) → Calls Try.prog 14 #[v] X (RetNewB X bs)) := by
    intro X v vs B0 ho hp
    obtain ⟨Aj, cj, rfl, hrj, -⟩ := Own.rd' ho
    have := join_any Aj _ cj vs (cutP bs ss) X _ _ hrj hp.pr (Nat.le_refl _) (Nat.le_refl _) (by omega) (by rw [hf1.out]; omega)
    rwa [hf1.out] at this
  generalize cutP bs ss = P1 at *
  generalize cutP bs zs = P at *
  have hpl' : P.length ≤ 300 := by omega
  clear hr hs hz hbl hzl
  have hn' : (n : Int) ≤ 300 := by omega
  have hl' : (l : Int) ≤ 20 := by omega
  have hm' : (m : Int) ≤ 20 := by omega
  go_enter Try.func5, Try.ntmps5
  go_wp2_with (first
    | (go_at_call 7; refine (hA.out _).mono ?_; rintro e1 w1 ⟨rfl, hb1⟩; have HB1 := Lib.hid hb1; clear hb1)
    | (go_at_call 14; refine (hJ.out _ _ _ _ ho2.out hp2.out).mono ?_; rintro e3 w3 ⟨v3, rfl, ho3', hb3, hk3⟩; have ho3 := Lib.hid ho3'; clear ho3'; have HB3 := Lib.hid (below_trans HB2.out hb3))
    | (go_at_call 11; refine (hC2.out _ HB4.out).mono ?_; rintro e5 w5 ⟨v5, rfl, vs5, ho5, hp5, hb5, hk5⟩; have HB5 := Lib.hid (below_trans HB4.out hb5); obtain ⟨Aq, cq, rfl, hr5, -⟩ := Own.rd' ho5)
    | (go_at_call 11; refine (hC3.out _ _ HB3.out ho3.out).mono ?_; rintro e4 w4 ⟨v4, rfl, vs4, ho4, hp4, hb4, hk4⟩; have HB4 := Lib.hid (below_trans HB3.out hb4); obtain ⟨Ap, cp, rfl, hr4, -⟩ := Own.rd' ho4)
    | (go_at_call 11; refine (hC1.out _ HB1.out).mono ?_; rintro e2 w2 ⟨v2, rfl, vs2, ho2', hp2', hb2, hk2⟩; have HB2 := Lib.hid (below_trans HB1.out hb2); have ho2 := Lib.hid ho2'; have hp2 := Lib.hid hp2'; clear ho2' hp2'))
  have HR4 := Lib.hid (hr4.below hb5); have HP4 := Lib.hid (hp4.pr.below hb5)
  have HR5 := Lib.hid hr5; have HP5 := Lib.hid hp5.pr
  clear hr4 hp4 ho4 hr5 hp5 ho5 hb3 hb4 hb5
  go_loopw [9] (fun i wr => ∃ k q : Nat, k ≤ P.length ∧ i = .int .i64 k ∧ wr = w5.drewN q) (fun i _ => P.length - (intOf i).toNat)
  case atStart => exact ⟨0, 0, by omega, rfl, rfl⟩
  case round =>
    obtain ⟨k, q, hk, rfl, rfl⟩ := hrel
    by_cases hlt : k < P.length
    · obtain ⟨b4, o4, rfl, hB4, hc4⟩ := HR4.out.2 (by omega)
      obtain ⟨b5, o5, rfl, hB5, hc5⟩ := HR5.out.2 (by omega)
      have c4 := hc4 k (by omega)
      have c5 := hc5 k (by omega)
      obtain ⟨A4, d4, h4, -, hx4⟩ := HP4.out.2 k hlt
      obtain ⟨A5, d5, h5, -, hx5⟩ := HP5.out.2 k hlt
      rw [h4] at c4
      rw [h5] at c5
      have kb4 := fun q => conv_rd (cap := d4) (hx4.below (w' := w5.drewN q) (below_drewN (Below.refl _ _) q))
      have kb5 := fun q => conv_rd (cap := d5) (hx5.below (w' := w5.drewN q) (below_drewN (Below.refl _ _) q))
      have hmem := getD_mem P k hlt
      have hne := hpn.out _ hmem
      have hmo := fun h => hpm.out h _ hmem
      generalize P.getD k [] = x at *
      have hl0 : ((x.length : Int) == 0) = false := by
        rw [beq_eq_false_iff_ne]
        cases x with
        | nil => exact absurd rfl hne
        | cons => simp; omega
      generalize x.length = xl at *
      generalize (⟨x.toArray⟩ : ByteArray) = X at *
      have i1 : (k : Int) < (P.length : Int) := by omega
      clear hc4 hc5 h4 h5 hx4 hx5 hne
      by_cases hm0 : m = 0
      · have e1 : decide ((0 : Int) < (m : Int)) = false := decide_eq_false (by omega)
        clear hmo
        go_wp2_with fail
        go_quiet (fail)
        go_wp2
        go_roundw
        case rel => exact ⟨k + 1, q + nq, by omega, by go_num, by first | rfl | simp [World.drewN_drewN]⟩
        case measure => simp [intOf]; omega
      · have e1 : decide ((0 : Int) < (m : Int)) = true := decide_eq_true (by omega)
        have e2 : decide ((4096 : Int) < (xl : Int)) = false := decide_eq_false (by have := hmo (by omega); omega)
        have hm1 : 0 < m := by omega
        have hx1 : xl ≤ 4096 := hmo hm1
        have e3 : ¬ 4096 < xl := by omega
        clear hmo
        go_wp2_with fail
        go_quiet (fail)
        go_wp2
        go_roundw
        case rel => exact ⟨k + 1, q + nq, by omega, by go_num, by first | rfl | simp [World.drewN_drewN]⟩
        case measure => simp [intOf]; omega
    · go_wp2
      go_ret
      exact ⟨rfl, below_drewN HB5.out _⟩

set_option maxHeartbeats 1000000 in
theorem again_any (bs : List UInt8) (ss zs : List Int) (A S Z : Option Addr) (n c l e m d : Nat) (w : World) (hr : Rd w w.heap.size 1 A n (bs.map bV)) (hs : Rd w w.heap.size 1 S l (ss.map iV)) (hz : Rd w w.heap.size 1 Z m (zs.map iV))
    (hc : n ≤ c) (he : l ≤ e) (hd : m ≤ d) :
    Calls Try.prog 5 #[.slice A n c, .slice S l e, .slice Z m d] w fun e w' => e = .returned (.bool true) ∧ Below w.heap.size w w' := by
  by_cases h : n ≤ 300 ∧ l ≤ 20 ∧ m ≤ 20
  · exact again_small bs ss zs A S Z n c l e m d w hr hs hz h.1 hc h.2.1 he h.2.2 hd
  · have hA : Hid (∀ w, Calls Try.prog 7 #[] w fun e w' => e = .returned (.bool true) ∧ Below w.heap.size w w') := awake_any
    clear hr hs hz
    have hcs : (300 < (n : Int)) ∨ ((n : Int) ≤ 300 ∧ 20 < (l : Int)) ∨ ((n : Int) ≤ 300 ∧ (l : Int) ≤ 20 ∧ 20 < (m : Int)) := by omega
    clear h
    rcases hcs with h1 | ⟨h1, h2⟩ | ⟨h1, h2, h3⟩
    all_goals
      go_enter Try.func5, Try.ntmps5
      go_wp2_with fail
      refine (hA.out _).mono ?_
      rintro e1 w1 ⟨rfl, hb1⟩
      go_wp2_with fail
      refine (hA.out _).mono ?_
      rintro e2 w2 ⟨rfl, hb2⟩
      go_wp2
      go_ret
      exact ⟨rfl, below_trans hb1 hb2⟩
end Go.Proofs.Ytkppgofiojddoaa
