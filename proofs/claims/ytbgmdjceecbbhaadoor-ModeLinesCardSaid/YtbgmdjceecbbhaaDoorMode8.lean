/-
  The contract of context at a hit; no condition beyond those that each theorem states.
-/
import Derived.Test.YtbgmdjceecbbhaaDoorMode7
namespace Go.Proofs.YtbgmdjceecbbhaaDoor
open Go.RowKit Go.Rb
attribute [local irreducible] Go.wpQuiet

theorem own_ne_own {w : World} {e e' : TypeId} {sz sz' n n' : Nat} {v v' : Value} {xs xs' : List Value} (h : Own w e sz v n xs) (h' : Own w e' sz' v' n' xs') (hne : e' ≠ e) {k : Nat} (hk : v.ownBlock = some k) : v'.ownBlock ≠ some k := by
  rcases h.2 with ⟨rfl, _⟩ | ⟨g, off, cap, cur, rfl, hg, _⟩
  · simp [Value.ownBlock] at hk
  · have e1 : g = k := by simpa [Value.ownBlock] using hk
    subst e1
    exact own_ne_blk' (t := e) (cs := cur) h' hg hne
theorem Tr.grown {w w' : World} {p : Nat} {s : Ts} {hv ov : Value} {on : Nat} {ol : List Value} (h : Tr w p s hv) (ho : Own w 9 1 ov on ol) (hg : w.grownBy w' ov.ownBlock) : Tr w' p s hv :=
  ⟨h.1.grown hg (fun e => own_ne_blk' ho h.1 (by decide) e.symm), h.2.grown hg (fun k hk e => own_ne_own h.2 ho (by decide) hk e)⟩
theorem rec_call (p : Nat) (hp : 0 < p) (sg : UInt8) (s : Ts) (x : Rc) (W : World) (hv : Value) (h : Tr W p s hv) (hT : Tb W) (hx : I64 x.n ∧ x.t.length ≤ 60) :
    Calls Tryd.prog 26 #[.pointer (some ⟨p, 0, none⟩), .agg #[.int .i64 x.n, .int .i64 x.a, .string (mk x.t)], .string ⟨#[sg]⟩] W fun e w' =>
      ∃ A n c, e = .returned (.slice A n c) ∧ n = (recL s x sg).length ∧ n ≤ 2 ∧ Rd w' w'.heap.size 1 A n (lns (recL s x sg)) ∧ Own w' 9 1 (.slice A n c) (recL s x sg).length (lns (recL s x sg)) ∧ (∀ k, (Value.slice A n c).ownBlock = some k → W.heap.size ≤ k) ∧ Tr w' p (told s x) hv ∧ Only (fun k => k = p) W w' :=
  (record_any s x sg p hv W h hT hp hx.1 hx.2).mono fun e w' ⟨v, he, ho, hk, ht, hon⟩ => by
    obtain ⟨A, c, rfl, -, -⟩ := ho.len_
    exact ⟨A, _, c, he, rfl, recL_len s x sg, ho.rd, ho, hk, ht, hon⟩
set_option maxRecDepth 20000 in
set_option maxHeartbeats 4000000 in
theorem ctx_hit (s : Ts) (r : Rc) (p : Nat) (hv : Value) (w : World) (h : Tr w p s hv) (hT : Tb w) (hp : 0 < p) (hx : I64 r.n ∧ r.t.length ≤ 60) (hh : ∀ x ∈ s.held, I64 x.n ∧ x.t.length ≤ 60) (hm : s.held.length ≤ 100) :
    Calls Tryd.prog 21 #[pp p, rcv r, .bool true] w fun e w' => ∃ v, e = .returned v ∧ Own w' 9 1 v ((recAll s s.held).1 ++ recL (fresh (recAll s s.held).2) r 58).length (lns ((recAll s s.held).1 ++ recL (fresh (recAll s s.held).2) r 58)) ∧ (∀ k, v.ownBlock = some k → w.heap.size ≤ k) ∧ Tr w' p (told (fresh (recAll s s.held).2) r) (.slice none 0 0) ∧ Only (fun k => k = p) w w' := by
  obtain ⟨i0, hi0, hz0, hz1, hz2⟩ := info_parts infoS
  obtain ⟨A, c, rfl, -, -⟩ := h.2.len_
  have HR45 := Lib.hid (rec_call p hp 45)
  have HR58 := Lib.hid (rec_call p hp 58)
  have HH : Hid (∀ (i : Nat) (hi : i < s.held.length), I64 (s.held[i]'hi).n ∧ (s.held[i]'hi).t.length ≤ 60) := fun i hi => hh _ (List.getElem_mem hi)
  have HX := Lib.hid hx
  have hpl := h.1.lt
  have HTR := Lib.hid (h.alloc (.cells #[.int .i64 r.n, .int .i64 r.a, .string (mk r.t)] 29))
  have HBW := Lib.hid (below_al (Below.refl _ w) (.cells #[.int .i64 r.n, .int .i64 r.a, .string (mk r.t)] 29))
  have HSZ := Lib.hid (show (w.alloc (.cells #[.int .i64 r.n, .int .i64 r.a, .string (mk r.t)] 29)).heap.size = w.heap.size + 1 by simp)
  have HR1 := Lib.hid (Blk.new w 29 #[.int .i64 r.n, .int .i64 r.a, .string (mk r.t)])
  have HT1 := Lib.hid (hT.alloc (.cells #[.int .i64 r.n, .int .i64 r.a, .string (mk r.t)] 29))
  have hpg : (p == w.heap.size) = false := by rw [beq_eq_false_iff_ne]; omega
  have hgp : (w.heap.size == p) = false := by rw [beq_eq_false_iff_ne]; omega
  have HCELL : Hid (∀ (W : World) (S : Ts) (hv : Value), Tr W p S hv → W.cell? ⟨p, 2, none⟩ = some (.int .i64 S.after) ∧ W.cell? ⟨p, 5, none⟩ = some hv ∧ W.cell? ⟨p, 6, none⟩ = some (.int .i64 S.more) ∧ W.frozen? ⟨p, 5, none⟩ = false ∧ W.frozen? ⟨p, 6, none⟩ = false) := fun W S hv h => ⟨h.1.cell 2, h.1.cell 5, h.1.cell 6, h.1.frozen 5, h.1.frozen 6⟩
  obtain ⟨-, c5, -, -, -⟩ := HCELL.out _ _ _ HTR.out
  have HM : Hid (∃ m, s.held.length = m) := ⟨_, rfl⟩
  obtain ⟨m, hM⟩ := HM.out
  have HHM := Lib.hid hM
  rw [hM] at hm c5 HTR
  have HRA := Lib.hid (show ∀ i (hi : i < s.held.length), recAll s (s.held.take (i + 1)) = ((recAll s (s.held.take i)).1 ++ recL (recAll s (s.held.take i)).2 (s.held[i]'hi) 45, told (recAll s (s.held.take i)).2 (s.held[i]'hi)) from fun i hi => by rw [List.take_add_one, List.getElem?_eq_getElem hi]; exact recAll_snoc _ _ _)
  have HRH := Lib.hid (show ∀ i, (recAll s (s.held.take i)).2.held = s.held from fun i => recAll_held _ _)
  have HRL := Lib.hid (show ∀ i, i ≤ 100 → (recAll s (s.held.take i)).1.length ≤ 200 from fun i hi => by have := recAll_len s (s.held.take i); rw [List.length_take] at this; omega)
  obtain ⟨LF, SF, hF⟩ : ∃ LF SF, recAll s s.held = (LF, SF) := ⟨_, _, rfl⟩
  rw [hF]
  simp only
  obtain ⟨LR, hLR⟩ : ∃ X, recL (fresh SF) r 58 = X := ⟨_, rfl⟩
  obtain ⟨TR, hTR⟩ : ∃ X, told (fresh SF) r = X := ⟨_, rfl⟩
  rw [hLR, hTR]
  have HF := Lib.hid hF
  have HLR := Lib.hid hLR
  have HTD := Lib.hid hTR
  clear h hT hx hh hM HM hF hLR hTR
  unfold pp rcv
  go_enter Tryd.func21, Tryd.ntmps21
  go_wp2_with fail
  generalize w.alloc (.cells #[.int .i64 r.n, .int .i64 r.a, .string (mk r.t)] 29) = W1 at *
  go_loopw [7, 17] (fun ov iv wr => ∃ (i : Nat) (L : List (List UInt8)) (S : Ts), iv = .int .i64 i ∧ i ≤ m ∧ Hid (recAll s (s.held.take i) = (L, S)) ∧ Hid (Own wr 9 1 ov L.length (lns L)) ∧ Hid (∀ k, ov.ownBlock = some k → W1.heap.size ≤ k) ∧ Hid (Tr wr p S (.slice A m c)) ∧ Hid (Only (fun k => k = p) W1 wr)) (fun _ iv _ => m - (intOf iv).toNat)
  case atStart => exact ⟨0, [], s, rfl, by omega, by show recAll _ _ = _; rfl, by show Own _ _ _ _ _ _; exact Own.nil_ _ _ _, fun k hk => by simp [Value.ownBlock] at hk, HTR.out, Only.refl _ _⟩
  case round =>
    obtain ⟨i, L, S, rfl, hi, hLS, hown, hok, htr, hon⟩ := hrel
    obtain ⟨Ao, co, rfl, -, -⟩ := hown.out.len_
    have hL := HRL.out i (by omega)
    rw [hLS.out] at hL
    have hSH := HRH.out i
    rw [hLS.out] at hSH
    simp only at hL hSH
    have HSH := Lib.hid hSH
    clear hSH
    by_cases hlt : i < m
    · have hown3 := htr.out.2
      rw [HSH.out] at hown3
      obtain ⟨pb, po, rfl, hpl3, a0, a1, a2⟩ := own_cell3 (n := s.held.length) (by rw [HHM.out] at hown3 ⊢; exact hown3) rfl i (by rw [HHM.out]; exact hlt)
      have hra := HRA.out i (by rw [HHM.out]; exact hlt)
      rw [hLS.out] at hra
      simp only at hra
      have hxi := HH.out i (by rw [HHM.out]; exact hlt)
      generalize s.held[i]'(by rw [HHM.out]; exact hlt) = x at *
      have HRAI := Lib.hid hra
      have hcl := HR45.out S x (wr.alloc (.cells #[.int .i64 x.n, .int .i64 x.a, .string (mk x.t)] 29)) (.slice (some ⟨pb, po, none⟩) m c) (htr.out.alloc _) ((HT1.out.only hon.out (by omega)).alloc _) hxi
      have HCL := Lib.hid hcl
      have HOAL := Lib.hid (hown.out.alloc (.cells #[.int .i64 x.n, .int .i64 x.a, .string (mk x.t)] 29))
      have HNE := Lib.hid (own_ne_blk' hown.out htr.out.1 (by decide))
      have HON1 := Lib.hid (hon.out.alloc (.cells #[.int .i64 x.n, .int .i64 x.a, .string (mk x.t)] 29))
      have i1 : (i : Int) < (m : Int) := by omega
      have i2 : (0 : Int) ≤ (i : Int) := by omega
      clear hra hxi hown3 hcl
      generalize recL S x 45 = LX at *
      generalize told S x = SX at *
      obtain ⟨xn, xa, xt⟩ := x
      simp only at a0 a1 a2 HCL HOAL HON1
      go_wp2_with (first
        | (go_at_call 26; go_loud (refine HCL.out.mono ?_; rintro e3 w3 ⟨A3, n3, c3, rfl, hn3, hn32, hrd3, hown3, hk3, htr3, hon3⟩; have HN3 := Lib.hid hn3; have HRD3 := Lib.hid hrd3; have HOWN3 := Lib.hid (HOAL.out.only hon3 (fun k hk e => HNE.out (hk.trans (congrArg some e)))); have HTR3 := Lib.hid htr3; have HON3 := Lib.hid hon3; clear hn3 hrd3 hown3 hk3 htr3 hon3))
        | (at_builtin; go_loud (refine wpList_append_rd _ rfl (.tmp 21) (.tmp 24) _ rfl 9 i0 _ 1 16 Tryd.underlying34 hi0 hz0 hz1 hz2 rfl (by omega) (.slice Ao L.length co) L.length (lns L) rfl (by exact HOWN3.out) w3.heap.size A3 n3 c3 (lns LX) rfl (by exact HRD3.out) (lns_one LX) (by simp only [maxLen]; omega) (by omega) _ rfl ?_; intro v4 w4 hown4 hgrow4 hat4)))
      have hon4 := (HON1.out.trans HON3.out (fun _ _ h => h)).grown hgrow4 (fun k hk hlt => by have := hok.out k hk; omega)
      have htr4 := HTR3.out.grown HOWN3.out hgrow4
      have hs3 : W1.heap.size ≤ w3.heap.size := (HON1.out.trans HON3.out (fun _ _ h => h)).size
      have hk4 : ∀ k, v4.ownBlock = some k → W1.heap.size ≤ k := fun k hk => by
        rcases hat4 with h | h
        · exact hok.out k (h.symm.trans hk)
        · rw [h] at hk; injection hk with hk; omega
      have HON4 := Lib.hid hon4
      have HTR4 := Lib.hid htr4
      have HK4 := Lib.hid hk4
      have HOWN4 : Hid (Own w4 9 1 v4 (L ++ LX).length (lns (L ++ LX))) := by
        show Own _ _ _ _ _ _
        rw [lns_append, List.length_append, ← HN3.out]; exact hown4
      clear hon4 htr4 hk4 hown4 hgrow4 hat4 hs3
      go_roundw
      case rel => exact ⟨i + 1, L ++ LX, SX, by go_num, by omega, HRAI.out, HOWN4.out, HK4.out, HTR4.out, HON4.out⟩
      case measure => simp [intOf]; omega
    · obtain rfl : i = m := by omega
      have hfin : recAll s s.held = (L, S) := by
        have := hLS.out
        rwa [List.take_of_length_le (by rw [HHM.out]; exact Nat.le_refl _)] at this
      rw [HF.out] at hfin
      obtain ⟨rfl, rfl⟩ : LF = L ∧ SF = S := by injection hfin with a b; exact ⟨a, b⟩
      have HRW := Lib.hid (HR1.out.only hon.out (by omega))
      have x0 := HRW.out.cell 0
      have x1 := HRW.out.cell 1
      have x2 := HRW.out.cell 2
      simp only [List.getElem?_toArray, List.getElem?_cons_succ, List.getElem?_cons_zero] at x0 x1 x2
      obtain ⟨c2, c5, c6, z5, z6⟩ := HCELL.out _ _ _ htr.out
      have htrW : Tr ((wr.setCell ⟨p, 5, none⟩ (.slice none 0 0)).setCell ⟨p, 6, none⟩ (.int .i64 SF.after)) p (fresh SF) (.slice none 0 0) :=
        ⟨(htr.out.1.set_ 5 (.slice none 0 0)).set_ 6 (.int .i64 SF.after), Own.nil_ _ _ _⟩
      have honW : Only (fun k => k = p) W1 ((wr.setCell ⟨p, 5, none⟩ (.slice none 0 0)).setCell ⟨p, 6, none⟩ (.int .i64 SF.after)) := (hon.out.setCell (p := ⟨p, 5, none⟩) (fun _ => rfl) _).setCell (p := ⟨p, 6, none⟩) (fun _ => rfl) _
      have hnp := own_ne_blk' hown.out htr.out.1 (by decide)
      have howW : Own ((wr.setCell ⟨p, 5, none⟩ (.slice none 0 0)).setCell ⟨p, 6, none⟩ (.int .i64 SF.after)) 9 1 (.slice Ao LF.length co) LF.length (lns LF) := (hown.out.setCell (p := ⟨p, 5, none⟩) hnp _).setCell (p := ⟨p, 6, none⟩) hnp _
      have HOWW := Lib.hid howW
      have HONW := Lib.hid honW
      have HNE := Lib.hid hnp
      have HCL := Lib.hid (HR58.out (fresh SF) r _ _ htrW (HT1.out.only honW (by omega)) HX.out)
      have i1 : ¬ (i : Int) < (i : Int) := by omega
      have hl2 := recL_len (fresh SF) r 58
      clear htrW honW howW hnp hl2
      rw [HLR.out, HTD.out] at HCL
      clear hfin
      obtain ⟨rn, ra, rt⟩ := r
      simp only at HCL x0 x1 x2
      go_wp2_with (first
        | (go_at_call 26; go_loud (refine HCL.out.mono ?_; rintro e3 w3 ⟨A3, n3, c3, rfl, hn3, hn32, hrd3, hown3, hk3, htr3, hon3⟩; have HN3 := Lib.hid hn3; have HRD3 := Lib.hid hrd3; have HOWN3 := Lib.hid (HOWW.out.only hon3 (fun k hk e => HNE.out (hk.trans (congrArg some e)))); have HTR3 := Lib.hid htr3; have HON3 := Lib.hid hon3; clear hn3 hrd3 hown3 hk3 htr3 hon3))
        | (at_builtin; go_loud (refine wpList_append_rd _ rfl (.tmp 37) (.tmp 40) _ rfl 9 i0 _ 1 16 Tryd.underlying34 hi0 hz0 hz1 hz2 rfl (by omega) (.slice Ao LF.length co) LF.length (lns LF) rfl (by exact HOWN3.out) w3.heap.size A3 n3 c3 (lns LR) rfl (by exact HRD3.out) (lns_one LR) (by simp only [maxLen]; omega) (by omega) _ rfl ?_; intro v4 w4 hown4 hgrow4 hat4)))
      have hon4 := (HONW.out.trans HON3.out (fun _ _ h => h)).grown hgrow4 (fun k hk hlt => by have := hok.out k hk; omega)
      have hs3 : W1.heap.size ≤ w3.heap.size := (HONW.out.trans HON3.out (fun _ _ h => h)).size
      go_ret
      refine ⟨_, rfl, ?_, fun k hk => ?_, HTR3.out.grown HOWN3.out hgrow4, ((Only.of_below HBW.out).mono (fun k hk h => absurd h (by omega))).trans hon4 (fun _ _ h => h)⟩
      · rw [lns_append, List.length_append, ← HN3.out]; exact hown4
      · have hk : v4.ownBlock = some k := hk
        have := HSZ.out
        rcases hat4 with h | h
        · have := hok.out k (h.symm.trans hk); omega
        · rw [h] at hk; injection hk with hk; omega
end Go.Proofs.YtbgmdjceecbbhaaDoor
