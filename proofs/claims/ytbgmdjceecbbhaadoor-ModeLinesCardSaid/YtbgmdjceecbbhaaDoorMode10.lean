/-
  The contract of context where one is held too many; no condition beyond those that each theorem states.
-/
import Derived.Test.YtbgmdjceecbbhaaDoorMode9
namespace Go.Proofs.YtbgmdjceecbbhaaDoor
open Go.RowKit Go.Rb
attribute [local irreducible] Go.wpQuiet

set_option maxRecDepth 20000 in
set_option maxHeartbeats 4000000 in
theorem ctx_drop (s : Ts) (r : Rc) (p : Nat) (hv : Value) (w : World) (h : Tr w p s hv) (hm0 : ¬ 0 < s.more) (hb : 0 < s.before) (hne : (s.held.length : Int) = s.before) (hm : s.held.length ≤ 100) :
    Calls Tryd.prog 21 #[pp p, rcv r, .bool false] w fun e w' => ∃ hv', e = .returned (.slice none 0 0) ∧ Tr w' p { s with held := s.held.drop 1 ++ [r] } hv' ∧ (∀ k, hv'.ownBlock = some k → hv.ownBlock = some k ∨ w.heap.size ≤ k) ∧ Only (fun k => k = p ∨ hv.ownBlock = some k) w w' := by
  obtain ⟨j0, hj0, hz0, hz1, hz2⟩ := info_parts infoR
  obtain ⟨A, c, rfl, -, -⟩ := h.2.len_
  have HTR := Lib.hid (h.alloc (.cells #[.int .i64 r.n, .int .i64 r.a, .string (mk r.t)] 29))
  have HBW := Lib.hid (below_al (Below.refl _ w) (.cells #[.int .i64 r.n, .int .i64 r.a, .string (mk r.t)] 29))
  have HR1 := Lib.hid (Blk.new w 29 #[.int .i64 r.n, .int .i64 r.a, .string (mk r.t)])
  have hr1 := HR1.out
  have hpl := h.1.lt
  have hpg : (p == w.heap.size) = false := by rw [beq_eq_false_iff_ne]; omega
  have hgp : (w.heap.size == p) = false := by rw [beq_eq_false_iff_ne]; omega
  have c6 := HTR.out.1.cell 6
  have c5 := HTR.out.1.cell 5
  have c1 := HTR.out.1.cell 1
  have x0 := hr1.cell 0
  have x1 := hr1.cell 1
  have x2 := hr1.cell 2
  simp only [tsc, List.getElem?_toArray, List.getElem?_cons_succ, List.getElem?_cons_zero] at x0 x1 x2 c1 c5 c6
  obtain ⟨M, hM⟩ : ∃ M, s.more = M := ⟨_, rfl⟩
  obtain ⟨B, hB⟩ : ∃ M, s.before = M := ⟨_, rfl⟩
  have hpl1 := HTR.out.1.lt
  have hgl1 := hr1.lt
  have hms : ∃ m, m = s.held.length := ⟨_, rfl⟩
  obtain ⟨m, hms⟩ := hms
  rw [hM] at hm0 c6
  rw [hB] at hb hne c1
  rw [← hms] at hne hm c5 HTR ⊢
  have HMS := Lib.hid hms
  have how := HTR.out.2
  rw [← hms] at how
  have HOW := Lib.hid how
  clear how
  have F1 : decide (0 < M) = false := decide_eq_false hm0
  have F2 : decide (0 < B) = true := decide_eq_true hb
  have F3 : ((m : Int) == B) = true := by rw [beq_iff_eq]; exact hne
  have hm1 : 1 ≤ m := by omega
  have hnp := HTR.out.own_ne
  obtain ⟨A1, c1', hsl, how1, hbk, -⟩ := own_tail (P := Tryd.prog) 51 Tryd.underlying51 (fun W => by kernel_rfl) HOW.out 1 hm1
  obtain ⟨m1, hm1e⟩ : ∃ m1, m - 1 = m1 := ⟨_, rfl⟩
  rw [hm1e] at hsl how1 hbk
  have hsl : ∀ W, (Instr.slice 51 (.slice A m c) (some (.int .i64 1)) none none).run Tryd.prog W = .ok (.slice A1 m1 c1') W := hsl
  rw [show (rcs s.held).drop (1 * 3) = rcs (s.held.drop 1) by cases s.held with | nil => rfl | cons x l => rfl] at how1
  have HBK := Lib.hid hbk
  have hmd : m1 = (s.held.drop 1).length := by rw [List.length_drop, ← hms]; omega
  have hm1' : m1 ≤ 100 := by omega
  have htr2 : Tr ((w.alloc (.cells #[.int .i64 r.n, .int .i64 r.a, .string (mk r.t)] 29)).setCell ⟨p, 5, none⟩ (.slice A1 m1 c1')) p { s with held := s.held.drop 1 } (.slice A1 m1 c1') :=
    ⟨HTR.out.1.set_ 5 _, by show Own _ _ _ _ (s.held.drop 1).length _; rw [← hmd]; exact how1.setCell (p := ⟨p, 5, none⟩) (fun e => hnp (hbk _ e)) _⟩
  have HMD := Lib.hid hmd
  have HTR2 := Lib.hid htr2
  have HOW2 := Lib.hid (how1.setCell (p := ⟨p, 5, none⟩) (fun e => hnp (hbk _ e)) (.slice A1 m1 c1'))
  have HBW2 : Hid (Only (fun k => k = p ∨ (Value.slice A m c).ownBlock = some k) w ((w.alloc (.cells #[.int .i64 r.n, .int .i64 r.a, .string (mk r.t)] 29)).setCell ⟨p, 5, none⟩ (.slice A1 m1 c1'))) := ((Only.of_below HBW.out).mono (fun k hk h => absurd h (by omega))).setCell (p := ⟨p, 5, none⟩) (fun _ => .inl rfl) _
  have z5 := HTR.out.1.frozen 5
  clear hbk hmd htr2 how1 hm1 hm1e hnp
  clear hM hB h hm0 hb hms hr1 hne
  obtain ⟨SF, hSF⟩ : ∃ SF, { s with held := s.held.drop 1 ++ [r] } = SF := ⟨_, rfl⟩
  rw [hSF]
  have HSF := Lib.hid hSF
  clear hSF
  have HRR : Hid (∃ x, r = x) := ⟨_, rfl⟩
  obtain ⟨rr, hrr⟩ := HRR.out
  have HR0 := Lib.hid hrr
  clear HRR hrr
  obtain ⟨rn, ra, rt⟩ := r
  unfold pp rcv
  simp only at *
  go_enter Tryd.func21, Tryd.ntmps21
  go_wp2_with fail
  generalize w.alloc (.cells #[.int .i64 rn, .int .i64 ra, .string (mk rt)] 29) = W1 at *
  go_region
  go_wp2_with fail
  have d5 := HTR2.out.1.cell 5
  have d1 := HTR2.out.1.cell 1
  have hpl2 := HTR2.out.1.lt
  have hgl2 : w.heap.size < (W1.setCell ⟨p, 5, none⟩ (.slice A1 m1 c1')).heap.size := by simpa using hgl1
  have hr2 : Blk (W1.setCell ⟨p, 5, none⟩ (.slice A1 m1 c1')) w.heap.size 29 #[.int .i64 rn, .int .i64 ra, .string (mk rt)] := HR1.out.far (p := ⟨p, 5, none⟩) (by show w.heap.size ≠ p; omega) _
  have y0 := hr2.cell 0
  have y1 := hr2.cell 1
  have y2 := hr2.cell 2
  simp only [tsc, List.getElem?_toArray, List.getElem?_cons_succ, List.getElem?_cons_zero] at d5 d1 y0 y1 y2
  clear hr2
  generalize W1.setCell ⟨p, 5, none⟩ (.slice A1 m1 c1') = W2 at *
  go_region_law (go_loud (refine step_append_mine _ rfl (.tmp 86) (.tmp 88) _ rfl 29 j0 _ 3 32 Tryd.underlying51 hj0 hz0 hz1 hz2 rfl (by omega) (.slice A1 m1 c1') m1 (rcs (s.held.drop 1)) rfl (by exact HOW2.out.alloc _) _ 1 1 [.int .i64 rn, .int .i64 ra, .string (mk rt)] rfl rfl (by exact news_pushs rfl rfl) (by simp [Value.oneCell']) (by omega) (by simp only [maxLen]; omega) (by omega) _ rfl ?_; intro g2 o2 cc2 w4 hown2 hgrow2 hat2; have hh := Tr.hold ⟨rn, ra, rt⟩ HTR2.out HMD.out (.cells #[.int .i64 rn, .int .i64 ra, .string (mk rt)] 29) (by rfl) hgrow2 hown2; have d5 : w4.cell? ⟨p, 5, none⟩ = some (.slice A1 m1 c1') := hh.1.cell 5; have z5 := hh.1.frozen 5; have HH := Lib.hid hh.2; have HG := Lib.hid hgrow2; have HAT := Lib.hid hat2; clear hh hown2 hgrow2 hat2))
  all_goals
  go_wp2_with fail
  go_ret
  refine ⟨rfl, _, by rw [← HSF.out]; exact HH.out, fun k hk => ?_, ?_⟩
  · have hk : some g2 = some k := hk
    injection hk with hk
    subst hk
    exact HAT.out.elim (fun h => .inl (HBK.out _ h)) (fun h => .inr (by rw [h]; have := HBW2.out.size; simp; omega))
  · exact ((HBW2.out.alloc _).drew.drew.grown HG.out (fun k hk _ => .inr (HBK.out _ hk))).setCell (p := ⟨p, 5, none⟩) (fun _ => .inl rfl) _
end Go.Proofs.YtbgmdjceecbbhaaDoor
