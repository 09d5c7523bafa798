/-
  The contract of context without a hit; no condition beyond those that each theorem states.
-/
import Derived.Test.YtbgmdjceecbbhaaDoorMode8
namespace Go.Proofs.YtbgmdjceecbbhaaDoor
open Go.RowKit Go.Rb
attribute [local irreducible] Go.wpQuiet

set_option maxRecDepth 20000 in
set_option maxHeartbeats 4000000 in
theorem ctx_more (s : Ts) (r : Rc) (p : Nat) (hv : Value) (w : World) (h : Tr w p s hv) (hT : Tb w) (hp : 0 < p) (hx : I64 r.n ∧ r.t.length ≤ 60) (hm0 : 0 < s.more) (hm : s.more ≤ 1000) :
    Calls Tryd.prog 21 #[pp p, rcv r, .bool false] w fun e w' => ∃ v, e = .returned v ∧ Own w' 9 1 v (recL { s with more := s.more - 1 } r 45).length (lns (recL { s with more := s.more - 1 } r 45)) ∧ (∀ k, v.ownBlock = some k → w.heap.size ≤ k) ∧ Tr w' p (told { s with more := s.more - 1 } r) hv ∧ Only (fun k => k = p) w w' := by
  have hpl := h.1.lt
  have HTR := Lib.hid (h.alloc (.cells #[.int .i64 r.n, .int .i64 r.a, .string (mk r.t)] 29))
  have HBW := Lib.hid (below_al (Below.refl _ w) (.cells #[.int .i64 r.n, .int .i64 r.a, .string (mk r.t)] 29))
  have HSZ := Lib.hid (show (w.alloc (.cells #[.int .i64 r.n, .int .i64 r.a, .string (mk r.t)] 29)).heap.size = w.heap.size + 1 by simp)
  have hr1 := (Blk.new w 29 #[.int .i64 r.n, .int .i64 r.a, .string (mk r.t)])
  have HT1 := Lib.hid (hT.alloc (.cells #[.int .i64 r.n, .int .i64 r.a, .string (mk r.t)] 29))
  have hpg : (p == w.heap.size) = false := by rw [beq_eq_false_iff_ne]; omega
  have hgp : (w.heap.size == p) = false := by rw [beq_eq_false_iff_ne]; omega
  have c6 := HTR.out.1.cell 6
  have z6 := HTR.out.1.frozen 6
  have x0 := hr1.cell 0
  have x1 := hr1.cell 1
  have x2 := hr1.cell 2
  simp only [tsc, List.getElem?_toArray, List.getElem?_cons_succ, List.getElem?_cons_zero] at x0 x1 x2 c6
  have htr : Tr (w.setCell ⟨p, 6, none⟩ (.int .i64 (s.more - 1))) p { s with more := s.more - 1 } hv := ⟨h.1.set_ 6 (.int .i64 (s.more - 1)), h.2.setCell h.own_ne _⟩
  have HTR2 := Lib.hid (htr.alloc (.cells #[.int .i64 r.n, .int .i64 r.a, .string (mk r.t)] 29))
  have HON2 : Hid (Only (fun k => k = p) w ((w.setCell ⟨p, 6, none⟩ (.int .i64 (s.more - 1))).alloc (.cells #[.int .i64 r.n, .int .i64 r.a, .string (mk r.t)] 29))) := ((Only.refl (fun k => k = p) _).setCell (p := ⟨p, 6, none⟩) (fun _ => rfl) _).alloc _
  have HCL := Lib.hid (rec_call p hp 45 { s with more := s.more - 1 } r _ hv HTR2.out (hT.only HON2.out (by omega)) hx)
  clear h hT hx hr1 htr
  obtain ⟨LR, hLR⟩ : ∃ X, recL { s with more := s.more - 1 } r 45 = X := ⟨_, rfl⟩
  obtain ⟨TR, hTR⟩ : ∃ X, told { s with more := s.more - 1 } r = X := ⟨_, rfl⟩
  rw [hLR, hTR] at HCL ⊢
  clear hLR hTR HTR2
  obtain ⟨M, hM⟩ : ∃ M, s.more = M := ⟨_, rfl⟩
  rw [hM] at hm hm0 c6 HCL HON2
  clear hM
  obtain ⟨rn, ra, rt⟩ := r
  unfold pp rcv
  simp only at *
  have i1 : (M : Int) - 1 < 9223372036854775808 := by omega
  have F1 : decide (0 < M) = true := decide_eq_true hm0
  go_enter Tryd.func21, Tryd.ntmps21
  go_wp2_with (go_at_call 26; go_loud (refine HCL.out.mono ?_; rintro e3 w3 ⟨A3, n3, c3, rfl, hn3, hn32, hrd3, hown3, hk3, htr3, hon3⟩))
  subst hn3
  go_ret
  refine ⟨_, rfl, ?_, fun k hk => ?_, htr3, HON2.out.trans hon3 (fun _ _ h => h)⟩
  · exact hown3
  · have hk : (Value.slice A3 LR.length c3).ownBlock = some k := hk
    have := hk3 k hk
    have := HON2.out.size
    omega
set_option maxRecDepth 20000 in
set_option maxHeartbeats 4000000 in
theorem ctx_none (s : Ts) (r : Rc) (p : Nat) (hv : Value) (w : World) (h : Tr w p s hv) (hm0 : ¬ 0 < s.more) (hb : ¬ 0 < s.before) :
    Calls Tryd.prog 21 #[pp p, rcv r, .bool false] w fun e w' => e = .returned (.slice none 0 0) ∧ Tr w' p s hv ∧ Below w.heap.size w w' := by
  have HTR := Lib.hid (h.alloc (.cells #[.int .i64 r.n, .int .i64 r.a, .string (mk r.t)] 29))
  have HBW := Lib.hid (below_al (Below.refl _ w) (.cells #[.int .i64 r.n, .int .i64 r.a, .string (mk r.t)] 29))
  have c6 := HTR.out.1.cell 6
  have c1 := HTR.out.1.cell 1
  simp only [tsc, List.getElem?_toArray, List.getElem?_cons_succ, List.getElem?_cons_zero] at c1 c6
  obtain ⟨M, hM⟩ : ∃ M, s.more = M := ⟨_, rfl⟩
  obtain ⟨B, hB⟩ : ∃ M, s.before = M := ⟨_, rfl⟩
  rw [hM] at hm0 c6
  rw [hB] at hb c1
  have F1 : decide (0 < M) = false := decide_eq_false hm0
  have F2 : decide (0 < B) = false := decide_eq_false hb
  clear hM hB h hm0 hb
  obtain ⟨rn, ra, rt⟩ := r
  unfold pp rcv
  simp only at *
  go_enter Tryd.func21, Tryd.ntmps21
  go_wp2_with fail
  go_ret
  exact ⟨rfl, HTR.out, HBW.out⟩
/-- One is held more. -/
theorem Tr.hold {W w w' : World} {p : Nat} {s : Ts} {A : Option Addr} {m c g2 o2 c2 : Nat} (r : Rc) (h : Tr W p s (.slice A m c)) (hm : m = s.held.length) (o : Obj) (hX : w.heap = (W.alloc o).heap) (hg : w.grownBy w' (Value.slice A m c).ownBlock)
    (ho : Own w' 29 3 (.slice (some ⟨g2, o2, none⟩) (m + 1) c2) (m + 1) (rcs s.held ++ [.int .i64 r.n, .int .i64 r.a, .string (mk r.t)])) :
    Blk w' p 53 (tsc s (.slice A m c)) ∧ Tr (w'.setCell ⟨p, 5, none⟩ (.slice (some ⟨g2, o2, none⟩) (m + 1) c2)) p { s with held := s.held ++ [r] } (.slice (some ⟨g2, o2, none⟩) (m + 1) c2) := by
  have h1 : Blk w p 53 (tsc s (.slice A m c)) := by unfold Blk; rw [hX]; exact h.1.alloc o
  have hb := h1.grown hg (fun e => h.own_ne e.symm)
  refine ⟨hb, hb.set_ 5 _, ?_⟩
  have hn := own_ne_blk' ho hb (by decide)
  have := ho.setCell (p := ⟨p, 5, none⟩) hn (.slice (some ⟨g2, o2, none⟩) (m + 1) c2)
  show Own _ _ _ _ (s.held ++ [r]).length (rcs (s.held ++ [r]))
  rw [rcs_append, List.length_append, ← hm]
  exact this
set_option maxRecDepth 20000 in
set_option maxHeartbeats 4000000 in
theorem ctx_hold (s : Ts) (r : Rc) (p : Nat) (hv : Value) (w : World) (h : Tr w p s hv) (hm0 : ¬ 0 < s.more) (hb : 0 < s.before) (hne : ¬ (s.held.length : Int) = s.before) (hm : s.held.length ≤ 100) :
    Calls Tryd.prog 21 #[pp p, rcv r, .bool false] w fun e w' => ∃ hv', e = .returned (.slice none 0 0) ∧ Tr w' p { s with held := s.held ++ [r] } hv' ∧ (∀ k, hv'.ownBlock = some k → hv.ownBlock = some k ∨ w.heap.size ≤ k) ∧ Only (fun k => k = p ∨ hv.ownBlock = some k) w w' := by
  obtain ⟨j0, hj0, hz0, hz1, hz2⟩ := info_parts infoR
  obtain ⟨A, c, rfl, -, -⟩ := h.2.len_
  have HTR := Lib.hid (h.alloc (.cells #[.int .i64 r.n, .int .i64 r.a, .string (mk r.t)] 29))
  have HBW := Lib.hid (below_al (Below.refl _ w) (.cells #[.int .i64 r.n, .int .i64 r.a, .string (mk r.t)] 29))
  have hr1 := (Blk.new w 29 #[.int .i64 r.n, .int .i64 r.a, .string (mk r.t)])
  have c6 := HTR.out.1.cell 6
  have c5 := HTR.out.1.cell 5
  have c1 := HTR.out.1.cell 1
  have x0 := hr1.cell 0
  have x1 := hr1.cell 1
  have x2 := hr1.cell 2
  simp only [tsc, List.getElem?_toArray, List.getElem?_cons_succ, List.getElem?_cons_zero] at x0 x1 x2 c1 c5 c6
  obtain ⟨M, hM⟩ : ∃ M, s.more = M := ⟨_, rfl⟩
  obtain ⟨B, hB⟩ : ∃ M, s.before = M := ⟨_, rfl⟩
  have hpl1 := HTR.out.1.lt
  have hgl1 := hr1.lt
  have hms : ∃ m, m = s.held.length := ⟨_, rfl⟩
  obtain ⟨m, hms⟩ := hms
  rw [hM] at hm0 c6
  rw [hB] at hb hne c1
  rw [← hms] at hne hm c5 HTR ⊢
  have HMS := Lib.hid hms
  have how := HTR.out.2
  rw [← hms] at how
  have HOW := Lib.hid how
  clear how
  have F1 : decide (0 < M) = false := decide_eq_false hm0
  have F2 : decide (0 < B) = true := decide_eq_true hb
  have F3 : ((m : Int) == B) = false := by rw [beq_eq_false_iff_ne]; exact hne
  clear hM hB h hm0 hb hms hr1 hne
  have HRR : Hid (∃ x, r = x) := ⟨_, rfl⟩
  obtain ⟨rr, hrr⟩ := HRR.out
  have HR0 := Lib.hid hrr
  clear HRR hrr
  obtain ⟨rn, ra, rt⟩ := r
  unfold pp rcv
  simp only at *
  go_enter Tryd.func21, Tryd.ntmps21
  go_wp2_with fail
  generalize w.alloc (.cells #[.int .i64 rn, .int .i64 ra, .string (mk rt)] 29) = W1 at *
  go_region
  go_wp2_with fail
  go_region_law (go_loud (refine step_append_mine _ rfl (.tmp 86) (.tmp 88) _ rfl 29 j0 _ 3 32 Tryd.underlying51 hj0 hz0 hz1 hz2 rfl (by omega) (.slice A m c) m (rcs s.held) rfl (by exact HOW.out.alloc _) _ 1 1 [.int .i64 rn, .int .i64 ra, .string (mk rt)] rfl rfl (by exact news_pushs rfl rfl) (by simp [Value.oneCell']) (by omega) (by simp only [maxLen]; omega) (by omega) _ rfl ?_; intro g2 o2 cc2 w4 hown2 hgrow2 hat2; have hh := Tr.hold ⟨rn, ra, rt⟩ HTR.out HMS.out (.cells #[.int .i64 rn, .int .i64 ra, .string (mk rt)] 29) (by rfl) hgrow2 hown2; have d5 : w4.cell? ⟨p, 5, none⟩ = some (.slice A m c) := hh.1.cell 5; have z5 := hh.1.frozen 5; have HH := Lib.hid hh.2; have HG := Lib.hid hgrow2; have HAT := Lib.hid hat2; clear hh hown2 hgrow2 hat2))
  all_goals
  go_wp2_with fail
  go_ret
  refine ⟨_, rfl, HH.out, fun k hk => ?_, ?_⟩
  · have hk : some g2 = some k := hk
    injection hk with hk
    subst hk
    exact HAT.out.elim (fun h => .inl h) (fun h => .inr (by rw [h]; have := HBW.out.size; simp; omega))
  · have h1 : Only (fun k => k = p ∨ (Value.slice A m c).ownBlock = some k) w W1 := (Only.of_below HBW.out).mono (fun k hk h => absurd h (by omega))
    exact ((h1.alloc _).drew.drew.grown HG.out (fun k hk _ => .inr hk)).setCell (p := ⟨p, 5, none⟩) (fun _ => .inl rfl) _
end Go.Proofs.YtbgmdjceecbbhaaDoor
