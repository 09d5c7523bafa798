/-
  The walk of reedbedlaw06.PoolParts: it returns true; no condition beyond those that each theorem states.
-/
import Derived.Test.YtmebpalfjcejoaaParts0
import Derived.Test.YtmebpalfjcejoaaActs
namespace Go.Proofs.Ytmebpalfjcejoaa
open Go.RowKit Go.Rb

/-- Which of the line's first k have been seen. -/
def SeenAt (w : World) (g k : Nat) (l : List Nat) : Prop := ∃ cs, Blk w g 43 cs ∧ cs.size = 64 ∧ ∀ q, q < 64 → cs[q]? = some (.bool (decide (q ∈ l.take k)))
theorem seen_new (w : World) (l : List Nat) : SeenAt (w.alloc (.cells (Array.replicate 64 (.bool false)) 43)) w.heap.size 0 l :=
  ⟨_, Blk.new w _ _, by simp, fun q hq => by simp [hq]⟩
theorem seen_cell {w : World} {g k : Nat} {l : List Nat} (h : SeenAt w g k l) (q : Nat) (hq : q < 64) : w.cell? ⟨g, q, none⟩ = some (.bool (decide (q ∈ l.take k))) := by
  obtain ⟨cs, hb, _, hc⟩ := h
  rw [hb.cell, hc q hq]
theorem seen_frozen {w : World} {g k : Nat} {l : List Nat} (h : SeenAt w g k l) (q : Nat) : w.frozen? ⟨g, q, none⟩ = false := by
  obtain ⟨cs, hb, _⟩ := h
  exact hb.frozen q
theorem hseen_lt {w : World} {g k : Nat} {l : List Nat} (h : SeenAt w g k l) : g < w.heap.size := by
  obtain ⟨cs, hb, _⟩ := h
  exact hb.lt
theorem seen_own {w : World} {g k n : Nat} {l : List Nat} {v : Value} {xs : List Value} (h : SeenAt w g k l) (ho : Own w 3 1 v n xs) : v.ownBlock ≠ some g := by
  obtain ⟨cs, hb, _⟩ := h
  exact own_ne_blk ho hb (by decide)
theorem seen_set {w : World} {g k : Nat} {l : List Nat} (h : SeenAt w g k l) (hk : k < l.length) : SeenAt (w.setCell ⟨g, l[k], none⟩ (.bool true)) g (k + 1) l := by
  obtain ⟨cs, hb, hs, hc⟩ := h
  refine ⟨_, hb.set_ _ _, by simpa using hs, fun q hq => ?_⟩
  have e : l.take (k + 1) = l.take k ++ [l[k]] := List.take_succ_eq_append_getElem hk
  rw [e]
  by_cases h : l[k] = q
  · subst h
    rw [Array.getElem?_setIfInBounds_self_of_lt (by omega), decide_eq_true (List.mem_append_right _ (List.mem_singleton.2 rfl))]
  · have h2 : q ∈ l.take k ++ [l[k]] ↔ q ∈ l.take k := by
      rw [List.mem_append, List.mem_singleton]
      exact ⟨fun x => by rcases x with x | x; exact x; exact absurd x.symm h, .inl⟩
    rw [Array.getElem?_setIfInBounds_ne h, hc q hq, show decide (q ∈ l.take k ++ [l[k]]) = decide (q ∈ l.take k) from decide_eq_decide.2 h2]
theorem not_mem_take {l : List Nat} (hn : l.Nodup) (k : Nat) (hk : k < l.length) : l[k] ∉ l.take k := by
  intro hm
  have h1 : l = l.take k ++ l[k] :: l.drop (k + 1) := by rw [← List.drop_eq_getElem_cons hk, List.take_append_drop]
  rw [h1] at hn
  exact (List.nodup_append.1 hn).2.2 _ hm _ List.mem_cons_self rfl
theorem tmod_bd' (a m : Int) (hm : 0 < m) : -m < a.tmod m ∧ a.tmod m < m := by
  have h1 := Int.tmod_lt_of_pos a hm
  have h2 := Int.lt_tmod_of_pos a hm
  omega

set_option maxRecDepth 20000 in
set_option maxHeartbeats 8000000 in
theorem parts_small (a0 a1 : Int) (acts : List ActD) (A : Option Addr) (m c : Nat) (w : World) (hr : ActsAt w w.heap.size A m acts) (hm : m ≤ 40) :
    Calls Try.prog 5 #[.agg #[.int .i64 a0, .int .i64 a1], .slice A m c] w fun e w' => e = .returned (.bool true) ∧ Below w.heap.size w w' := by
  have hA : Hid (∀ w, Calls Try.prog 8 #[] w fun e w' => e = .returned (.bool true) ∧ Below w.heap.size w w') := awake_any
  have t0 := tmod_bd' a0 64 (by omega)
  have t1 := tmod_bd' a1 200 (by omega)
  obtain ⟨n, hn1, hn2, hn⟩ : ∃ n : Nat, 1 ≤ n ∧ n ≤ 64 ∧ 1 + a0.tmod 64 % 64 = (n : Int) := ⟨(1 + a0.tmod 64 % 64).toNat, by omega, by omega, by omega⟩
  obtain ⟨z, hz1, hz2, hz⟩ : ∃ z : Nat, 1 ≤ z ∧ z ≤ 200 ∧ 1 + a1.tmod 200 % 200 = (z : Int) := ⟨(1 + a1.tmod 200 % 200).toNat, by omega, by omega, by omega⟩
  have hN : Hid (∀ W, Below w.heap.size w W → Calls Try.prog 9 #[.int .i64 (n : Int), .int .i64 (z : Int)] W fun e w' => ∃ p, e = .returned (.tuple #[.pointer (some ⟨p, 0, none⟩), .int .i64 0]) ∧ Below W.heap.size W w' ∧ In w.heap.size NoT w' p (newS n z)) :=
    fun W hW => new_in (B := w.heap.size) n z W NoT (fun _ h => h.elim) (by omega) (by omega) (by omega) (by omega) hW.size
  have HR := Lib.hid hr
  clear hr
  have i1 : (m : Int) ≤ 40 := by omega
  go_enter Try.func5, Try.ntmps5
  go_wp2_with (go_at_call 8; refine (hA.out _).mono ?_; rintro e1 w1 ⟨rfl, hb1⟩; have HB1 := Lib.hid (below_trans (below_al (Below.refl _ w) _) hb1); have d0 : w1.cell? ⟨w.heap.size, 0, none⟩ = some (.int .i64 a0) := (by rw [hb1.cell (p := ⟨w.heap.size, 0, none⟩) (by simp), World.cell?_alloc_mark]; rfl); have d1 : w1.cell? ⟨w.heap.size, 1, none⟩ = some (.int .i64 a1) := (by rw [hb1.cell (p := ⟨w.heap.size, 1, none⟩) (by simp), World.cell?_alloc_mark]; rfl); clear hb1)
  go_quiet (fail)
  go_wp2_with (go_at_call 9; refine (hN.out _ (below_drewN HB1.out _)).mono ?_; rintro e2 w2 ⟨p, rfl, hb2, hi2⟩; have HB2 := Lib.hid (below_trans (below_drewN HB1.out _) hb2); have HI2 := Lib.hid hi2; clear hb2 hi2)
  clear HB1 d0 d1 hN hn hz t0 t1
  go_loopw [9] (fun i wr => ∃ (j : Nat) (s : PS), j ≤ m ∧ i = .int .i64 j ∧ PartsInv n z (j + 1) s ∧ Below w.heap.size w wr ∧ In w.heap.size NoT wr p s) (fun i _ => m - (intOf i).toNat)
  case atStart => exact ⟨0, _, by omega, rfl, PartsInv.init n z, HB2.out, HI2.out⟩
  case round =>
    obtain ⟨j, s, hj, rfl, hinv, hbw, hin⟩ := hrel
    by_cases hjm : j < m
    · obtain ⟨g, o, x, Ab, cb, rfl, hx, hat0⟩ := HR.out.2 j hjm
      have hat := hat0.below hbw
      have i5 : (j : Int) < (m : Int) := by omega
      have q0 := hat.c0; have q1 := hat.c1; have q2 := hat.c2; have q3 := hat.c3; have q4 := hat.c4
      have l1 := hat.lo; have l2 := hat.hi
      have HI0 : Hid (∀ ob, In w.heap.size NoT (wr.alloc ob) p s) := fun ob => hin.below (below_al (Below.refl _ _) ob)
      have HB0 : Hid (∀ ob, Below w.heap.size w (wr.alloc ob)) := fun ob => below_al hbw ob
      have hat := hat0
      clear hin hat0 hx HB2 HI2 hbw
      by_cases h500 : 500 < x.b.length
      · have i6 : (500 : Int) < (x.b.length : Int) := by omega
        clear hat
        generalize x.b.length = nb at *
        have HBE := Lib.hid (HB0.out (.cells #[.int .i64 x.k, .int .i64 x.i, .int .i64 x.f, .int .i64 x.t, .slice Ab nb cb] 42))
        go_wp2
        go_ret
        exact ⟨rfl, HBE.out⟩
      · have i6 : ¬ (500 : Int) < (x.b.length : Int) := by omega
        by_cases hk0 : x.k = 0
        · have b0 : (x.k == 0) = true := by simp [hk0]
          clear hk0
          have hC := take_in (HI0.out (.cells #[.int .i64 x.k, .int .i64 x.i, .int .i64 x.f, .int .i64 x.t, .slice Ab x.b.length cb] 42)) (fun q hq => by rw [hinv.hl]; exact hinv.lt q hq)
          have HC := Lib.hid hC
          have hinv2 : PartsInv n z (j + 1 + 1) (takeS s) := (hinv.take (by omega)).more (by omega)
          generalize takeS s = s2 at *
          clear hC hinv hat
          unfold pp at HC
          go_wp2_with (go_at_call 10; refine HC.out.mono ?_; rintro e3 w3 ⟨rfl, hd3⟩; have HBW := Lib.hid ((HB0.out _).trans (hd3.below (HI0.out _).1)); have HIN := Lib.hid hd3.1; clear hd3)
          refine (free_in HIN.out (by have := hinv2.len; omega)).mono ?_
          rintro e4 w4 ⟨v4, rfl, hown4, hbel4, hblk4⟩
          rw [List.length_map, ← nV_map] at hown4
          obtain ⟨A4, c4, rfl, hc4, -⟩ := hown4.len_
          have HI4 := Lib.hid (HIN.out.below hbel4); have HB4 := Lib.hid (below_trans HBW.out hbel4); have HO4 := Lib.hid hown4
          have hL := hinv2.len
          have hall := hinv2.all
          have hcl := cntH_le s2 n
          have HINV := Lib.hid hinv2
          clear hown4 hbel4 hblk4 hinv2 HIN HBW
          generalize hln : s2.ln = l at *
          generalize hLn : l.length = L at *
          go_wp2
          go_loopw [13] (fun i wr => ∃ k : Nat, k ≤ L ∧ i = .int .i64 k ∧ Below w.heap.size w wr ∧ Own wr 3 1 (.slice A4 L c4) L (l.map nV) ∧ SeenAt wr w4.heap.size k l ∧ In w.heap.size (fun q => q = w4.heap.size) wr p s2) (fun i _ => L - (intOf i).toNat)
          case atStart =>
            refine ⟨0, by omega, rfl, below_al HB4.out _, HO4.out.alloc _, seen_new _ _, ?_⟩
            exact HI4.out.frame (U := fun q => w4.heap.size ≤ q) ((Only.refl _ _).alloc _) (fun q hq => .inr hq) (fun q hq => ⟨.inr (by omega), by subst hq; simp⟩)
          case round =>
            obtain ⟨k, hk, rfl, hbw2, hown2, hseen, hin2⟩ := hrel
            by_cases hkL : k < L
            · obtain ⟨b1, o1, cp1, hA1, -, -, -, hc1, -⟩ := hown2.form (by omega)
              have c2 := hc1 k (by omega)
              rw [List.getElem?_map, List.getElem?_eq_getElem (by omega)] at c2
              simp only [Option.map_some, nV] at c2
              simp only [Value.slice.injEq, true_and] at hA1
              obtain ⟨rfl, rfl⟩ := hA1
              have hxl : l[k]'(by omega) ∈ s2.ln := by rw [hln]; exact List.getElem_mem _
              have hxn := HINV.out.lt _ hxl
              have hnt : (l[k]'(by omega)) ∉ l.take k := by
                have hnd := HINV.out.nd
                rw [hln] at hnd
                exact not_mem_take hnd k (by omega)
              have cseen := seen_cell hseen (l[k]'(by omega)) (by omega)
              rw [decide_eq_false hnt] at cseen
              have fseen := seen_frozen hseen (l[k]'(by omega))
              have HSet := Lib.hid (seen_set hseen (by omega : k < l.length))
              have hH := holds_in ((l[k]'(by omega) : Nat) : Int) hin2
              rw [HINV.out.holds0 hxl] at hH
              have HOS := Lib.hid (hown2.setCell (p := ⟨w4.heap.size, l[k]'(by omega), none⟩) (seen_own hseen hown2) (.bool true))
              have HIS := Lib.hid (hin2.frame (T' := fun q => q = w4.heap.size) (U := fun q => q = w4.heap.size) ((Only.refl (fun q => q = w4.heap.size) wr).setCell (p := ⟨w4.heap.size, l[k]'(by omega), none⟩) (fun _ => rfl) (.bool true)) (fun q hq => .inl hq) (fun q hq => ⟨.inl hq, by subst hq; simpa [World.setCell] using hseen_lt hseen⟩))
              have HBS := Lib.hid (hbw2.setCell (p := ⟨w4.heap.size, l[k]'(by omega), none⟩) HB4.out.size (.bool true))
              have i5 : (k : Int) < (L : Int) := by omega
              have HH := Lib.hid hH
              clear hH hseen hown2 hin2 hbw2 hc1 hxl hnt
              generalize l[k]'(by omega) = x at *
              have i6 : (x : Int) < (n : Int) := by omega
              have i7 : (x : Int) < 64 := by omega
              unfold pp at HH
              go_wp2_with (go_at_call 17; refine HH.out.mono ?_; rintro e5 w5 ⟨rfl, rfl⟩)
              go_roundw
              case rel => exact ⟨k + 1, by omega, by go_num, HBS.out, HOS.out, HSet.out, HIS.out⟩
              case measure => simp [intOf]; omega
            · have HI5 := Lib.hid hin2; have HB5 := Lib.hid hbw2
              clear hin2 hbw2 hseen hown2 HI4 HB4 HO4
              go_wp2
              go_loopw [14, 15] (fun h i wy => ∃ k : Nat, k ≤ n ∧ i = .int .i64 k ∧ h = .int .i64 (cntH s2 k : Nat) ∧ wr = wy) (fun _ i _ => n - (intOf i).toNat)
              case atStart => exact ⟨0, by omega, rfl, rfl, rfl⟩
              case round =>
                obtain ⟨k', hk', rfl, rfl, rfl⟩ := hrel
                by_cases hkn : k' < n
                · have hH := holds_in ((k' : Nat) : Int) HI5.out
                  rw [HINV.out.holds hkn] at hH
                  unfold pp at hH
                  have i5 : (k' : Int) < (n : Int) := by omega
                  have hcs : cntH s2 (k' + 1) = cntH s2 k' + (if 0 < s2.hs.getD k' 0 then 1 else 0) := rfl
                  have hck := cntH_le s2 k'
                  have HH := Lib.hid hH
                  by_cases h0 : 0 < s2.hs.getD k' 0
                  · rw [if_pos h0] at hcs
                    have HC := Lib.hid hcs
                    have hb1 := HINV.out.hb k'
                    clear hH hcs
                    generalize s2.hs.getD k' 0 = hv at *
                    have i8 : (0 : Int) < (hv : Int) := by omega
                    generalize hcq : cntH s2 k' = cc at *
                    go_wp2_with (go_at_call 17; refine HH.out.mono ?_; rintro e5 w5 ⟨rfl, rfl⟩)
                    go_roundw
                    case rel => exact ⟨k' + 1, by omega, by go_num, by rw [HC.out]; go_num, by first | rfl | trivial⟩
                    case measure => simp [intOf]; omega
                  · rw [if_neg h0] at hcs
                    have HC := Lib.hid hcs
                    clear hH hcs
                    have h00 : s2.hs.getD k' 0 = 0 := by omega
                    rw [h00] at HH
                    clear h0 h00
                    generalize hcq : cntH s2 k' = cc at *
                    go_wp2_with (go_at_call 17; refine HH.out.mono ?_; rintro e5 w5 ⟨rfl, rfl⟩)
                    go_roundw
                    case rel => exact ⟨k' + 1, by omega, by go_num, by rw [HC.out]; go_num, by first | rfl | trivial⟩
                    case measure => simp [intOf]; omega
                · obtain rfl : k' = n := by omega
                  have hBy := HINV.out.bytes
                  have hBB := bytes_in HI5.out (fun i => by have := HINV.out.sz i; omega)
                  unfold pp at hBB
                  have HBB := Lib.hid hBB
                  obtain ⟨P, hP⟩ : ∃ P, cntH s2 k' * z = P := ⟨_, rfl⟩
                  have hP1 : P ≤ 12800 := by rw [← hP]; exact Nat.le_trans (Nat.mul_le_mul (show _ ≤ 64 by omega) hz2) (by omega)
                  rw [hP] at hBy
                  have hPi : ((cntH s2 k' : Nat) : Int) * (z : Int) = (P : Int) := by rw [← hP]; simp
                  have k6 : (((cntH s2 k' : Nat) : Int) + (L : Int) != (k' : Int)) = false := by simp; omega
                  clear hBB hP
                  generalize cntH s2 k' = cc at *
                  generalize hbq : bytesO s2 = bb at *
                  have i9 : ¬ (P : Int) < (bb : Int) := by omega
                  go_wp2_with (go_at_call 15; refine HBB.out.mono ?_; rintro e6 w6 ⟨rfl, hb6⟩; have HB6 := Lib.hid (below_trans HB5.out hb6); have HI6 := Lib.hid ((HI5.out.below hb6).frame (T' := NoT) (U := NoT) (Only.refl _ _) (fun _ h => h.elim) (fun _ h => h.elim)); clear hb6)
                  go_roundw
                  case rel => exact ⟨j + 1, _, by omega, by go_num, HINV.out, HB6.out, HI6.out⟩
                  case measure => simp [intOf]; omega
        · have b0 : (x.k == 0) = false := by simp [hk0]
          clear hk0
          by_cases hk1 : x.k = 1
          · have b1 : (x.k == 1) = true := by simp [hk1]
            clear hk1
            have hC := fill_in x.i Ab x.b.length cb _ x.b (HI0.out (.cells #[.int .i64 x.k, .int .i64 x.i, .int .i64 x.f, .int .i64 x.t, .slice Ab x.b.length cb] 42)) (hat.rd.below (HB0.out _)) (HB0.out _).size
            have HC := Lib.hid hC
            have hinv2 : PartsInv n z (j + 1 + 1) (fillS s x.i x.b) := (hinv.fill _ _).more (by omega)
            generalize fillS s x.i x.b = s2 at *
            clear hC hinv hat
            unfold pp at HC
            go_wp2_with (go_at_call 13; refine HC.out.mono ?_; rintro e3 w3 ⟨rfl, hd3⟩; have HBW := Lib.hid ((HB0.out _).trans (hd3.below (HI0.out _).1)); have HIN := Lib.hid hd3.1; clear hd3)
            refine (free_in HIN.out (by have := hinv2.len; omega)).mono ?_
            rintro e4 w4 ⟨v4, rfl, hown4, hbel4, hblk4⟩
            rw [List.length_map, ← nV_map] at hown4
            obtain ⟨A4, c4, rfl, hc4, -⟩ := hown4.len_
            have HI4 := Lib.hid (HIN.out.below hbel4); have HB4 := Lib.hid (below_trans HBW.out hbel4); have HO4 := Lib.hid hown4
            have hL := hinv2.len
            have hall := hinv2.all
            have hcl := cntH_le s2 n
            have HINV := Lib.hid hinv2
            clear hown4 hbel4 hblk4 hinv2 HIN HBW
            generalize hln : s2.ln = l at *
            generalize hLn : l.length = L at *
            go_wp2
            go_loopw [13] (fun i wr => ∃ k : Nat, k ≤ L ∧ i = .int .i64 k ∧ Below w.heap.size w wr ∧ Own wr 3 1 (.slice A4 L c4) L (l.map nV) ∧ SeenAt wr w4.heap.size k l ∧ In w.heap.size (fun q => q = w4.heap.size) wr p s2) (fun i _ => L - (intOf i).toNat)
            case atStart =>
              refine ⟨0, by omega, rfl, below_al HB4.out _, HO4.out.alloc _, seen_new _ _, ?_⟩
              exact HI4.out.frame (U := fun q => w4.heap.size ≤ q) ((Only.refl _ _).alloc _) (fun q hq => .inr hq) (fun q hq => ⟨.inr (by omega), by subst hq; simp⟩)
            case round =>
              obtain ⟨k, hk, rfl, hbw2, hown2, hseen, hin2⟩ := hrel
              by_cases hkL : k < L
              · obtain ⟨b1, o1, cp1, hA1, -, -, -, hc1, -⟩ := hown2.form (by omega)
                have c2 := hc1 k (by omega)
                rw [List.getElem?_map, List.getElem?_eq_getElem (by omega)] at c2
                simp only [Option.map_some, nV] at c2
                simp only [Value.slice.injEq, true_and] at hA1
                obtain ⟨rfl, rfl⟩ := hA1
                have hxl : l[k]'(by omega) ∈ s2.ln := by rw [hln]; exact List.getElem_mem _
                have hxn := HINV.out.lt _ hxl
                have hnt : (l[k]'(by omega)) ∉ l.take k := by
                  have hnd := HINV.out.nd
                  rw [hln] at hnd
                  exact not_mem_take hnd k (by omega)
                have cseen := seen_cell hseen (l[k]'(by omega)) (by omega)
                rw [decide_eq_false hnt] at cseen
                have fseen := seen_frozen hseen (l[k]'(by omega))
                have HSet := Lib.hid (seen_set hseen (by omega : k < l.length))
                have hH := holds_in ((l[k]'(by omega) : Nat) : Int) hin2
                rw [HINV.out.holds0 hxl] at hH
                have HOS := Lib.hid (hown2.setCell (p := ⟨w4.heap.size, l[k]'(by omega), none⟩) (seen_own hseen hown2) (.bool true))
                have HIS := Lib.hid (hin2.frame (T' := fun q => q = w4.heap.size) (U := fun q => q = w4.heap.size) ((Only.refl (fun q => q = w4.heap.size) wr).setCell (p := ⟨w4.heap.size, l[k]'(by omega), none⟩) (fun _ => rfl) (.bool true)) (fun q hq => .inl hq) (fun q hq => ⟨.inl hq, by subst hq; simpa [World.setCell] using hseen_lt hseen⟩))
                have HBS := Lib.hid (hbw2.setCell (p := ⟨w4.heap.size, l[k]'(by omega), none⟩) HB4.out.size (.bool true))
                have i5 : (k : Int) < (L : Int) := by omega
                have HH := Lib.hid hH
                clear hH hseen hown2 hin2 hbw2 hc1 hxl hnt
                generalize l[k]'(by omega) = x at *
                have i6 : (x : Int) < (n : Int) := by omega
                have i7 : (x : Int) < 64 := by omega
                unfold pp at HH
                go_wp2_with (go_at_call 17; refine HH.out.mono ?_; rintro e5 w5 ⟨rfl, rfl⟩)
                go_roundw
                case rel => exact ⟨k + 1, by omega, by go_num, HBS.out, HOS.out, HSet.out, HIS.out⟩
                case measure => simp [intOf]; omega
              · have HI5 := Lib.hid hin2; have HB5 := Lib.hid hbw2
                clear hin2 hbw2 hseen hown2 HI4 HB4 HO4
                go_wp2
                go_loopw [14, 15] (fun h i wy => ∃ k : Nat, k ≤ n ∧ i = .int .i64 k ∧ h = .int .i64 (cntH s2 k : Nat) ∧ wr = wy) (fun _ i _ => n - (intOf i).toNat)
                case atStart => exact ⟨0, by omega, rfl, rfl, rfl⟩
                case round =>
                  obtain ⟨k', hk', rfl, rfl, rfl⟩ := hrel
                  by_cases hkn : k' < n
                  · have hH := holds_in ((k' : Nat) : Int) HI5.out
                    rw [HINV.out.holds hkn] at hH
                    unfold pp at hH
                    have i5 : (k' : Int) < (n : Int) := by omega
                    have hcs : cntH s2 (k' + 1) = cntH s2 k' + (if 0 < s2.hs.getD k' 0 then 1 else 0) := rfl
                    have hck := cntH_le s2 k'
                    have HH := Lib.hid hH
                    by_cases h0 : 0 < s2.hs.getD k' 0
                    · rw [if_pos h0] at hcs
                      have HC := Lib.hid hcs
                      have hb1 := HINV.out.hb k'
                      clear hH hcs
                      generalize s2.hs.getD k' 0 = hv at *
                      have i8 : (0 : Int) < (hv : Int) := by omega
                      generalize hcq : cntH s2 k' = cc at *
                      go_wp2_with (go_at_call 17; refine HH.out.mono ?_; rintro e5 w5 ⟨rfl, rfl⟩)
                      go_roundw
                      case rel => exact ⟨k' + 1, by omega, by go_num, by rw [HC.out]; go_num, by first | rfl | trivial⟩
                      case measure => simp [intOf]; omega
                    · rw [if_neg h0] at hcs
                      have HC := Lib.hid hcs
                      clear hH hcs
                      have h00 : s2.hs.getD k' 0 = 0 := by omega
                      rw [h00] at HH
                      clear h0 h00
                      generalize hcq : cntH s2 k' = cc at *
                      go_wp2_with (go_at_call 17; refine HH.out.mono ?_; rintro e5 w5 ⟨rfl, rfl⟩)
                      go_roundw
                      case rel => exact ⟨k' + 1, by omega, by go_num, by rw [HC.out]; go_num, by first | rfl | trivial⟩
                      case measure => simp [intOf]; omega
                  · obtain rfl : k' = n := by omega
                    have hBy := HINV.out.bytes
                    have hBB := bytes_in HI5.out (fun i => by have := HINV.out.sz i; omega)
                    unfold pp at hBB
                    have HBB := Lib.hid hBB
                    obtain ⟨P, hP⟩ : ∃ P, cntH s2 k' * z = P := ⟨_, rfl⟩
                    have hP1 : P ≤ 12800 := by rw [← hP]; exact Nat.le_trans (Nat.mul_le_mul (show _ ≤ 64 by omega) hz2) (by omega)
                    rw [hP] at hBy
                    have hPi : ((cntH s2 k' : Nat) : Int) * (z : Int) = (P : Int) := by rw [← hP]; simp
                    have k6 : (((cntH s2 k' : Nat) : Int) + (L : Int) != (k' : Int)) = false := by simp; omega
                    clear hBB hP
                    generalize cntH s2 k' = cc at *
                    generalize hbq : bytesO s2 = bb at *
                    have i9 : ¬ (P : Int) < (bb : Int) := by omega
                    go_wp2_with (go_at_call 15; refine HBB.out.mono ?_; rintro e6 w6 ⟨rfl, hb6⟩; have HB6 := Lib.hid (below_trans HB5.out hb6); have HI6 := Lib.hid ((HI5.out.below hb6).frame (T' := NoT) (U := NoT) (Only.refl _ _) (fun _ h => h.elim) (fun _ h => h.elim)); clear hb6)
                    go_roundw
                    case rel => exact ⟨j + 1, _, by omega, by go_num, HINV.out, HB6.out, HI6.out⟩
                    case measure => simp [intOf]; omega
          · have b1 : (x.k == 1) = false := by simp [hk1]
            clear hk1
            by_cases hk3 : x.k = 3
            · have b3 : (x.k == 3) = true := by simp [hk3]
              clear hk3
              have hC := hold_in x.i (HI0.out (.cells #[.int .i64 x.k, .int .i64 x.i, .int .i64 x.f, .int .i64 x.t, .slice Ab x.b.length cb] 42)) (by have := hinv.hOf_le x.i; omega)
              have HC := Lib.hid hC
              have hinv2 : PartsInv n z (j + 1 + 1) (holdS s x.i) := hinv.hold _
              generalize holdS s x.i = s2 at *
              clear hC hinv hat
              unfold pp at HC
              go_wp2_with (go_at_call 16; refine HC.out.mono ?_; rintro e3 w3 ⟨rfl, hd3⟩; have HBW := Lib.hid ((HB0.out _).trans (hd3.below (HI0.out _).1)); have HIN := Lib.hid hd3.1; clear hd3)
              refine (free_in HIN.out (by have := hinv2.len; omega)).mono ?_
              rintro e4 w4 ⟨v4, rfl, hown4, hbel4, hblk4⟩
              rw [List.length_map, ← nV_map] at hown4
              obtain ⟨A4, c4, rfl, hc4, -⟩ := hown4.len_
              have HI4 := Lib.hid (HIN.out.below hbel4); have HB4 := Lib.hid (below_trans HBW.out hbel4); have HO4 := Lib.hid hown4
              have hL := hinv2.len
              have hall := hinv2.all
              have hcl := cntH_le s2 n
              have HINV := Lib.hid hinv2
              clear hown4 hbel4 hblk4 hinv2 HIN HBW
              generalize hln : s2.ln = l at *
              generalize hLn : l.length = L at *
              go_wp2
              go_loopw [13] (fun i wr => ∃ k : Nat, k ≤ L ∧ i = .int .i64 k ∧ Below w.heap.size w wr ∧ Own wr 3 1 (.slice A4 L c4) L (l.map nV) ∧ SeenAt wr w4.heap.size k l ∧ In w.heap.size (fun q => q = w4.heap.size) wr p s2) (fun i _ => L - (intOf i).toNat)
              case atStart =>
                refine ⟨0, by omega, rfl, below_al HB4.out _, HO4.out.alloc _, seen_new _ _, ?_⟩
                exact HI4.out.frame (U := fun q => w4.heap.size ≤ q) ((Only.refl _ _).alloc _) (fun q hq => .inr hq) (fun q hq => ⟨.inr (by omega), by subst hq; simp⟩)
              case round =>
                obtain ⟨k, hk, rfl, hbw2, hown2, hseen, hin2⟩ := hrel
                by_cases hkL : k < L
                · obtain ⟨b1, o1, cp1, hA1, -, -, -, hc1, -⟩ := hown2.form (by omega)
                  have c2 := hc1 k (by omega)
                  rw [List.getElem?_map, List.getElem?_eq_getElem (by omega)] at c2
                  simp only [Option.map_some, nV] at c2
                  simp only [Value.slice.injEq, true_and] at hA1
                  obtain ⟨rfl, rfl⟩ := hA1
                  have hxl : l[k]'(by omega) ∈ s2.ln := by rw [hln]; exact List.getElem_mem _
                  have hxn := HINV.out.lt _ hxl
                  have hnt : (l[k]'(by omega)) ∉ l.take k := by
                    have hnd := HINV.out.nd
                    rw [hln] at hnd
                    exact not_mem_take hnd k (by omega)
                  have cseen := seen_cell hseen (l[k]'(by omega)) (by omega)
                  rw [decide_eq_false hnt] at cseen
                  have fseen := seen_frozen hseen (l[k]'(by omega))
                  have HSet := Lib.hid (seen_set hseen (by omega : k < l.length))
                  have hH := holds_in ((l[k]'(by omega) : Nat) : Int) hin2
                  rw [HINV.out.holds0 hxl] at hH
                  have HOS := Lib.hid (hown2.setCell (p := ⟨w4.heap.size, l[k]'(by omega), none⟩) (seen_own hseen hown2) (.bool true))
                  have HIS := Lib.hid (hin2.frame (T' := fun q => q = w4.heap.size) (U := fun q => q = w4.heap.size) ((Only.refl (fun q => q = w4.heap.size) wr).setCell (p := ⟨w4.heap.size, l[k]'(by omega), none⟩) (fun _ => rfl) (.bool true)) (fun q hq => .inl hq) (fun q hq => ⟨.inl hq, by subst hq; simpa [World.setCell] using hseen_lt hseen⟩))
                  have HBS := Lib.hid (hbw2.setCell (p := ⟨w4.heap.size, l[k]'(by omega), none⟩) HB4.out.size (.bool true))
                  have i5 : (k : Int) < (L : Int) := by omega
                  have HH := Lib.hid hH
                  clear hH hseen hown2 hin2 hbw2 hc1 hxl hnt
                  generalize l[k]'(by omega) = x at *
                  have i6 : (x : Int) < (n : Int) := by omega
                  have i7 : (x : Int) < 64 := by omega
                  unfold pp at HH
                  go_wp2_with (go_at_call 17; refine HH.out.mono ?_; rintro e5 w5 ⟨rfl, rfl⟩)
                  go_roundw
                  case rel => exact ⟨k + 1, by omega, by go_num, HBS.out, HOS.out, HSet.out, HIS.out⟩
                  case measure => simp [intOf]; omega
                · have HI5 := Lib.hid hin2; have HB5 := Lib.hid hbw2
                  clear hin2 hbw2 hseen hown2 HI4 HB4 HO4
                  go_wp2
                  go_loopw [14, 15] (fun h i wy => ∃ k : Nat, k ≤ n ∧ i = .int .i64 k ∧ h = .int .i64 (cntH s2 k : Nat) ∧ wr = wy) (fun _ i _ => n - (intOf i).toNat)
                  case atStart => exact ⟨0, by omega, rfl, rfl, rfl⟩
                  case round =>
                    obtain ⟨k', hk', rfl, rfl, rfl⟩ := hrel
                    by_cases hkn : k' < n
                    · have hH := holds_in ((k' : Nat) : Int) HI5.out
                      rw [HINV.out.holds hkn] at hH
                      unfold pp at hH
                      have i5 : (k' : Int) < (n : Int) := by omega
                      have hcs : cntH s2 (k' + 1) = cntH s2 k' + (if 0 < s2.hs.getD k' 0 then 1 else 0) := rfl
                      have hck := cntH_le s2 k'
                      have HH := Lib.hid hH
                      by_cases h0 : 0 < s2.hs.getD k' 0
                      · rw [if_pos h0] at hcs
                        have HC := Lib.hid hcs
                        have hb1 := HINV.out.hb k'
                        clear hH hcs
                        generalize s2.hs.getD k' 0 = hv at *
                        have i8 : (0 : Int) < (hv : Int) := by omega
                        generalize hcq : cntH s2 k' = cc at *
                        go_wp2_with (go_at_call 17; refine HH.out.mono ?_; rintro e5 w5 ⟨rfl, rfl⟩)
                        go_roundw
                        case rel => exact ⟨k' + 1, by omega, by go_num, by rw [HC.out]; go_num, by first | rfl | trivial⟩
                        case measure => simp [intOf]; omega
                      · rw [if_neg h0] at hcs
                        have HC := Lib.hid hcs
                        clear hH hcs
                        have h00 : s2.hs.getD k' 0 = 0 := by omega
                        rw [h00] at HH
                        clear h0 h00
                        generalize hcq : cntH s2 k' = cc at *
                        go_wp2_with (go_at_call 17; refine HH.out.mono ?_; rintro e5 w5 ⟨rfl, rfl⟩)
                        go_roundw
                        case rel => exact ⟨k' + 1, by omega, by go_num, by rw [HC.out]; go_num, by first | rfl | trivial⟩
                        case measure => simp [intOf]; omega
                    · obtain rfl : k' = n := by omega
                      have hBy := HINV.out.bytes
                      have hBB := bytes_in HI5.out (fun i => by have := HINV.out.sz i; omega)
                      unfold pp at hBB
                      have HBB := Lib.hid hBB
                      obtain ⟨P, hP⟩ : ∃ P, cntH s2 k' * z = P := ⟨_, rfl⟩
                      have hP1 : P ≤ 12800 := by rw [← hP]; exact Nat.le_trans (Nat.mul_le_mul (show _ ≤ 64 by omega) hz2) (by omega)
                      rw [hP] at hBy
                      have hPi : ((cntH s2 k' : Nat) : Int) * (z : Int) = (P : Int) := by rw [← hP]; simp
                      have k6 : (((cntH s2 k' : Nat) : Int) + (L : Int) != (k' : Int)) = false := by simp; omega
                      clear hBB hP
                      generalize cntH s2 k' = cc at *
                      generalize hbq : bytesO s2 = bb at *
                      have i9 : ¬ (P : Int) < (bb : Int) := by omega
                      go_wp2_with (go_at_call 15; refine HBB.out.mono ?_; rintro e6 w6 ⟨rfl, hb6⟩; have HB6 := Lib.hid (below_trans HB5.out hb6); have HI6 := Lib.hid ((HI5.out.below hb6).frame (T' := NoT) (U := NoT) (Only.refl _ _) (fun _ h => h.elim) (fun _ h => h.elim)); clear hb6)
                      go_roundw
                      case rel => exact ⟨j + 1, _, by omega, by go_num, HINV.out, HB6.out, HI6.out⟩
                      case measure => simp [intOf]; omega
            · have b3 : (x.k == 3) = false := by simp [hk3]
              clear hk3
              by_cases hk4 : x.k = 4
              · have b4 : (x.k == 4) = true := by simp [hk4]
                clear hk4
                have hC := drop_in x.i (HI0.out (.cells #[.int .i64 x.k, .int .i64 x.i, .int .i64 x.f, .int .i64 x.t, .slice Ab x.b.length cb] 42)) (by have := hinv.hOf_le x.i; omega) (by have := hinv.len; omega)
                have HC := Lib.hid hC
                have hinv2 : PartsInv n z (j + 1 + 1) (dropS s x.i) := (hinv.drop _).more (by omega)
                generalize dropS s x.i = s2 at *
                clear hC hinv hat
                unfold pp at HC
                go_wp2_with (go_at_call 11; refine HC.out.mono ?_; rintro e3 w3 ⟨rfl, hd3⟩; have HBW := Lib.hid ((HB0.out _).trans (hd3.below (HI0.out _).1)); have HIN := Lib.hid hd3.1; clear hd3)
                refine (free_in HIN.out (by have := hinv2.len; omega)).mono ?_
                rintro e4 w4 ⟨v4, rfl, hown4, hbel4, hblk4⟩
                rw [List.length_map, ← nV_map] at hown4
                obtain ⟨A4, c4, rfl, hc4, -⟩ := hown4.len_
                have HI4 := Lib.hid (HIN.out.below hbel4); have HB4 := Lib.hid (below_trans HBW.out hbel4); have HO4 := Lib.hid hown4
                have hL := hinv2.len
                have hall := hinv2.all
                have hcl := cntH_le s2 n
                have HINV := Lib.hid hinv2
                clear hown4 hbel4 hblk4 hinv2 HIN HBW
                generalize hln : s2.ln = l at *
                generalize hLn : l.length = L at *
                go_wp2
                go_loopw [13] (fun i wr => ∃ k : Nat, k ≤ L ∧ i = .int .i64 k ∧ Below w.heap.size w wr ∧ Own wr 3 1 (.slice A4 L c4) L (l.map nV) ∧ SeenAt wr w4.heap.size k l ∧ In w.heap.size (fun q => q = w4.heap.size) wr p s2) (fun i _ => L - (intOf i).toNat)
                case atStart =>
                  refine ⟨0, by omega, rfl, below_al HB4.out _, HO4.out.alloc _, seen_new _ _, ?_⟩
                  exact HI4.out.frame (U := fun q => w4.heap.size ≤ q) ((Only.refl _ _).alloc _) (fun q hq => .inr hq) (fun q hq => ⟨.inr (by omega), by subst hq; simp⟩)
                case round =>
                  obtain ⟨k, hk, rfl, hbw2, hown2, hseen, hin2⟩ := hrel
                  by_cases hkL : k < L
                  · obtain ⟨b1, o1, cp1, hA1, -, -, -, hc1, -⟩ := hown2.form (by omega)
                    have c2 := hc1 k (by omega)
                    rw [List.getElem?_map, List.getElem?_eq_getElem (by omega)] at c2
                    simp only [Option.map_some, nV] at c2
                    simp only [Value.slice.injEq, true_and] at hA1
                    obtain ⟨rfl, rfl⟩ := hA1
                    have hxl : l[k]'(by omega) ∈ s2.ln := by rw [hln]; exact List.getElem_mem _
                    have hxn := HINV.out.lt _ hxl
                    have hnt : (l[k]'(by omega)) ∉ l.take k := by
                      have hnd := HINV.out.nd
                      rw [hln] at hnd
                      exact not_mem_take hnd k (by omega)
                    have cseen := seen_cell hseen (l[k]'(by omega)) (by omega)
                    rw [decide_eq_false hnt] at cseen
                    have fseen := seen_frozen hseen (l[k]'(by omega))
                    have HSet := Lib.hid (seen_set hseen (by omega : k < l.length))
                    have hH := holds_in ((l[k]'(by omega) : Nat) : Int) hin2
                    rw [HINV.out.holds0 hxl] at hH
                    have HOS := Lib.hid (hown2.setCell (p := ⟨w4.heap.size, l[k]'(by omega), none⟩) (seen_own hseen hown2) (.bool true))
                    have HIS := Lib.hid (hin2.frame (T' := fun q => q = w4.heap.size) (U := fun q => q = w4.heap.size) ((Only.refl (fun q => q = w4.heap.size) wr).setCell (p := ⟨w4.heap.size, l[k]'(by omega), none⟩) (fun _ => rfl) (.bool true)) (fun q hq => .inl hq) (fun q hq => ⟨.inl hq, by subst hq; simpa [World.setCell] using hseen_lt hseen⟩))
                    have HBS := Lib.hid (hbw2.setCell (p := ⟨w4.heap.size, l[k]'(by omega), none⟩) HB4.out.size (.bool true))
                    have i5 : (k : Int) < (L : Int) := by omega
                    have HH := Lib.hid hH
                    clear hH hseen hown2 hin2 hbw2 hc1 hxl hnt
                    generalize l[k]'(by omega) = x at *
                    have i6 : (x : Int) < (n : Int) := by omega
                    have i7 : (x : Int) < 64 := by omega
                    unfold pp at HH
                    go_wp2_with (go_at_call 17; refine HH.out.mono ?_; rintro e5 w5 ⟨rfl, rfl⟩)
                    go_roundw
                    case rel => exact ⟨k + 1, by omega, by go_num, HBS.out, HOS.out, HSet.out, HIS.out⟩
                    case measure => simp [intOf]; omega
                  · have HI5 := Lib.hid hin2; have HB5 := Lib.hid hbw2
                    clear hin2 hbw2 hseen hown2 HI4 HB4 HO4
                    go_wp2
                    go_loopw [14, 15] (fun h i wy => ∃ k : Nat, k ≤ n ∧ i = .int .i64 k ∧ h = .int .i64 (cntH s2 k : Nat) ∧ wr = wy) (fun _ i _ => n - (intOf i).toNat)
                    case atStart => exact ⟨0, by omega, rfl, rfl, rfl⟩
                    case round =>
                      obtain ⟨k', hk', rfl, rfl, rfl⟩ := hrel
                      by_cases hkn : k' < n
                      · have hH := holds_in ((k' : Nat) : Int) HI5.out
                        rw [HINV.out.holds hkn] at hH
                        unfold pp at hH
                        have i5 : (k' : Int) < (n : Int) := by omega
                        have hcs : cntH s2 (k' + 1) = cntH s2 k' + (if 0 < s2.hs.getD k' 0 then 1 else 0) := rfl
                        have hck := cntH_le s2 k'
                        have HH := Lib.hid hH
                        by_cases h0 : 0 < s2.hs.getD k' 0
                        · rw [if_pos h0] at hcs
                          have HC := Lib.hid hcs
                          have hb1 := HINV.out.hb k'
                          clear hH hcs
                          generalize s2.hs.getD k' 0 = hv at *
                          have i8 : (0 : Int) < (hv : Int) := by omega
                          generalize hcq : cntH s2 k' = cc at *
                          go_wp2_with (go_at_call 17; refine HH.out.mono ?_; rintro e5 w5 ⟨rfl, rfl⟩)
                          go_roundw
                          case rel => exact ⟨k' + 1, by omega, by go_num, by rw [HC.out]; go_num, by first | rfl | trivial⟩
                          case measure => simp [intOf]; omega
                        · rw [if_neg h0] at hcs
                          have HC := Lib.hid hcs
                          clear hH hcs
                          have h00 : s2.hs.getD k' 0 = 0 := by omega
                          rw [h00] at HH
                          clear h0 h00
                          generalize hcq : cntH s2 k' = cc at *
                          go_wp2_with (go_at_call 17; refine HH.out.mono ?_; rintro e5 w5 ⟨rfl, rfl⟩)
                          go_roundw
                          case rel => exact ⟨k' + 1, by omega, by go_num, by rw [HC.out]; go_num, by first | rfl | trivial⟩
                          case measure => simp [intOf]; omega
                      · obtain rfl : k' = n := by omega
                        have hBy := HINV.out.bytes
                        have hBB := bytes_in HI5.out (fun i => by have := HINV.out.sz i; omega)
                        unfold pp at hBB
                        have HBB := Lib.hid hBB
                        obtain ⟨P, hP⟩ : ∃ P, cntH s2 k' * z = P := ⟨_, rfl⟩
                        have hP1 : P ≤ 12800 := by rw [← hP]; exact Nat.le_trans (Nat.mul_le_mul (show _ ≤ 64 by omega) hz2) (by omega)
                        rw [hP] at hBy
                        have hPi : ((cntH s2 k' : Nat) : Int) * (z : Int) = (P : Int) := by rw [← hP]; simp
                        have k6 : (((cntH s2 k' : Nat) : Int) + (L : Int) != (k' : Int)) = false := by simp; omega
                        clear hBB hP
                        generalize cntH s2 k' = cc at *
                        generalize hbq : bytesO s2 = bb at *
                        have i9 : ¬ (P : Int) < (bb : Int) := by omega
                        go_wp2_with (go_at_call 15; refine HBB.out.mono ?_; rintro e6 w6 ⟨rfl, hb6⟩; have HB6 := Lib.hid (below_trans HB5.out hb6); have HI6 := Lib.hid ((HI5.out.below hb6).frame (T' := NoT) (U := NoT) (Only.refl _ _) (fun _ h => h.elim) (fun _ h => h.elim)); clear hb6)
                        go_roundw
                        case rel => exact ⟨j + 1, _, by omega, by go_num, HINV.out, HB6.out, HI6.out⟩
                        case measure => simp [intOf]; omega
              · have b4 : (x.k == 4) = false := by simp [hk4]
                clear hk4
                have hinv2 : PartsInv n z (j + 1 + 1) s := hinv.more (by omega)
                clear hinv hat
                go_wp2_with fail
                have HBW := Lib.hid (HB0.out (.cells #[.int .i64 x.k, .int .i64 x.i, .int .i64 x.f, .int .i64 x.t, .slice Ab x.b.length cb] 42)); have HIN := Lib.hid (HI0.out (.cells #[.int .i64 x.k, .int .i64 x.i, .int .i64 x.f, .int .i64 x.t, .slice Ab x.b.length cb] 42))
                refine (free_in HIN.out (by have := hinv2.len; omega)).mono ?_
                rintro e4 w4 ⟨v4, rfl, hown4, hbel4, hblk4⟩
                rw [List.length_map, ← nV_map] at hown4
                obtain ⟨A4, c4, rfl, hc4, -⟩ := hown4.len_
                have HI4 := Lib.hid (HIN.out.below hbel4); have HB4 := Lib.hid (below_trans HBW.out hbel4); have HO4 := Lib.hid hown4
                have hL := hinv2.len
                have hall := hinv2.all
                have hcl := cntH_le s n
                have HINV := Lib.hid hinv2
                clear hown4 hbel4 hblk4 hinv2 HIN HBW
                generalize hln : s.ln = l at *
                generalize hLn : l.length = L at *
                go_wp2
                go_loopw [13] (fun i wr => ∃ k : Nat, k ≤ L ∧ i = .int .i64 k ∧ Below w.heap.size w wr ∧ Own wr 3 1 (.slice A4 L c4) L (l.map nV) ∧ SeenAt wr w4.heap.size k l ∧ In w.heap.size (fun q => q = w4.heap.size) wr p s) (fun i _ => L - (intOf i).toNat)
                case atStart =>
                  refine ⟨0, by omega, rfl, below_al HB4.out _, HO4.out.alloc _, seen_new _ _, ?_⟩
                  exact HI4.out.frame (U := fun q => w4.heap.size ≤ q) ((Only.refl _ _).alloc _) (fun q hq => .inr hq) (fun q hq => ⟨.inr (by omega), by subst hq; simp⟩)
                case round =>
                  obtain ⟨k, hk, rfl, hbw2, hown2, hseen, hin2⟩ := hrel
                  by_cases hkL : k < L
                  · obtain ⟨b1, o1, cp1, hA1, -, -, -, hc1, -⟩ := hown2.form (by omega)
                    have c2 := hc1 k (by omega)
                    rw [List.getElem?_map, List.getElem?_eq_getElem (by omega)] at c2
                    simp only [Option.map_some, nV] at c2
                    simp only [Value.slice.injEq, true_and] at hA1
                    obtain ⟨rfl, rfl⟩ := hA1
                    have hxl : l[k]'(by omega) ∈ s.ln := by rw [hln]; exact List.getElem_mem _
                    have hxn := HINV.out.lt _ hxl
                    have hnt : (l[k]'(by omega)) ∉ l.take k := by
                      have hnd := HINV.out.nd
                      rw [hln] at hnd
                      exact not_mem_take hnd k (by omega)
                    have cseen := seen_cell hseen (l[k]'(by omega)) (by omega)
                    rw [decide_eq_false hnt] at cseen
                    have fseen := seen_frozen hseen (l[k]'(by omega))
                    have HSet := Lib.hid (seen_set hseen (by omega : k < l.length))
                    have hH := holds_in ((l[k]'(by omega) : Nat) : Int) hin2
                    rw [HINV.out.holds0 hxl] at hH
                    have HOS := Lib.hid (hown2.setCell (p := ⟨w4.heap.size, l[k]'(by omega), none⟩) (seen_own hseen hown2) (.bool true))
                    have HIS := Lib.hid (hin2.frame (T' := fun q => q = w4.heap.size) (U := fun q => q = w4.heap.size) ((Only.refl (fun q => q = w4.heap.size) wr).setCell (p := ⟨w4.heap.size, l[k]'(by omega), none⟩) (fun _ => rfl) (.bool true)) (fun q hq => .inl hq) (fun q hq => ⟨.inl hq, by subst hq; simpa [World.setCell] using hseen_lt hseen⟩))
                    have HBS := Lib.hid (hbw2.setCell (p := ⟨w4.heap.size, l[k]'(by omega), none⟩) HB4.out.size (.bool true))
                    have i5 : (k : Int) < (L : Int) := by omega
                    have HH := Lib.hid hH
                    clear hH hseen hown2 hin2 hbw2 hc1 hxl hnt
                    generalize l[k]'(by omega) = x at *
                    have i6 : (x : Int) < (n : Int) := by omega
                    have i7 : (x : Int) < 64 := by omega
                    unfold pp at HH
                    go_wp2_with (go_at_call 17; refine HH.out.mono ?_; rintro e5 w5 ⟨rfl, rfl⟩)
                    go_roundw
                    case rel => exact ⟨k + 1, by omega, by go_num, HBS.out, HOS.out, HSet.out, HIS.out⟩
                    case measure => simp [intOf]; omega
                  · have HI5 := Lib.hid hin2; have HB5 := Lib.hid hbw2
                    clear hin2 hbw2 hseen hown2 HI4 HB4 HO4
                    go_wp2
                    go_loopw [14, 15] (fun h i wy => ∃ k : Nat, k ≤ n ∧ i = .int .i64 k ∧ h = .int .i64 (cntH s k : Nat) ∧ wr = wy) (fun _ i _ => n - (intOf i).toNat)
                    case atStart => exact ⟨0, by omega, rfl, rfl, rfl⟩
                    case round =>
                      obtain ⟨k', hk', rfl, rfl, rfl⟩ := hrel
                      by_cases hkn : k' < n
                      · have hH := holds_in ((k' : Nat) : Int) HI5.out
                        rw [HINV.out.holds hkn] at hH
                        unfold pp at hH
                        have i5 : (k' : Int) < (n : Int) := by omega
                        have hcs : cntH s (k' + 1) = cntH s k' + (if 0 < s.hs.getD k' 0 then 1 else 0) := rfl
                        have hck := cntH_le s k'
                        have HH := Lib.hid hH
                        by_cases h0 : 0 < s.hs.getD k' 0
                        · rw [if_pos h0] at hcs
                          have HC := Lib.hid hcs
                          have hb1 := HINV.out.hb k'
                          clear hH hcs
                          generalize s.hs.getD k' 0 = hv at *
                          have i8 : (0 : Int) < (hv : Int) := by omega
                          generalize hcq : cntH s k' = cc at *
                          go_wp2_with (go_at_call 17; refine HH.out.mono ?_; rintro e5 w5 ⟨rfl, rfl⟩)
                          go_roundw
                          case rel => exact ⟨k' + 1, by omega, by go_num, by rw [HC.out]; go_num, by first | rfl | trivial⟩
                          case measure => simp [intOf]; omega
                        · rw [if_neg h0] at hcs
                          have HC := Lib.hid hcs
                          clear hH hcs
                          have h00 : s.hs.getD k' 0 = 0 := by omega
                          rw [h00] at HH
                          clear h0 h00
                          generalize hcq : cntH s k' = cc at *
                          go_wp2_with (go_at_call 17; refine HH.out.mono ?_; rintro e5 w5 ⟨rfl, rfl⟩)
                          go_roundw
                          case rel => exact ⟨k' + 1, by omega, by go_num, by rw [HC.out]; go_num, by first | rfl | trivial⟩
                          case measure => simp [intOf]; omega
                      · obtain rfl : k' = n := by omega
                        have hBy := HINV.out.bytes
                        have hBB := bytes_in HI5.out (fun i => by have := HINV.out.sz i; omega)
                        unfold pp at hBB
                        have HBB := Lib.hid hBB
                        obtain ⟨P, hP⟩ : ∃ P, cntH s k' * z = P := ⟨_, rfl⟩
                        have hP1 : P ≤ 12800 := by rw [← hP]; exact Nat.le_trans (Nat.mul_le_mul (show _ ≤ 64 by omega) hz2) (by omega)
                        rw [hP] at hBy
                        have hPi : ((cntH s k' : Nat) : Int) * (z : Int) = (P : Int) := by rw [← hP]; simp
                        have k6 : (((cntH s k' : Nat) : Int) + (L : Int) != (k' : Int)) = false := by simp; omega
                        clear hBB hP
                        generalize cntH s k' = cc at *
                        generalize hbq : bytesO s = bb at *
                        have i9 : ¬ (P : Int) < (bb : Int) := by omega
                        go_wp2_with (go_at_call 15; refine HBB.out.mono ?_; rintro e6 w6 ⟨rfl, hb6⟩; have HB6 := Lib.hid (below_trans HB5.out hb6); have HI6 := Lib.hid ((HI5.out.below hb6).frame (T' := NoT) (U := NoT) (Only.refl _ _) (fun _ h => h.elim) (fun _ h => h.elim)); clear hb6)
                        go_roundw
                        case rel => exact ⟨j + 1, _, by omega, by go_num, HINV.out, HB6.out, HI6.out⟩
                        case measure => simp [intOf]; omega
    · have HBE := Lib.hid hbw
      clear hin hbw hinv
      go_wp2
      go_ret
      exact ⟨rfl, HBE.out⟩

set_option maxHeartbeats 1000000 in
theorem parts_any (a0 a1 : Int) (acts : List ActD) (A : Option Addr) (m c : Nat) (w : World) (hr : ActsAt w w.heap.size A m acts) :
    Calls Try.prog 5 #[.agg #[.int .i64 a0, .int .i64 a1], .slice A m c] w fun e w' => e = .returned (.bool true) ∧ Below w.heap.size w w' := by
  by_cases h : m ≤ 40
  · exact parts_small a0 a1 acts A m c w hr h
  · have hA : Hid (∀ w, Calls Try.prog 8 #[] w fun e w' => e = .returned (.bool true) ∧ Below w.heap.size w w') := awake_any
    have h1 : (40 : Int) < (m : Int) := by omega
    clear hr h
    go_enter Try.func5, Try.ntmps5
    go_wp2_with fail
    refine (hA.out _).mono ?_
    rintro e1 w1 ⟨rfl, hb1⟩
    go_wp2_with fail
    refine (hA.out _).mono ?_
    rintro e2 w2 ⟨rfl, hb2⟩
    go_wp2
    go_ret
    exact ⟨rfl, below_trans (below_al (Below.refl _ w) _) (below_trans hb1 hb2)⟩
end Go.Proofs.Ytmebpalfjcejoaa
