/-
  The contract of Add; no condition beyond those that each theorem states.
-/
import Derived.Test.YtbgmdjceecbbhaaDoorMode11
namespace Go.Proofs.YtbgmdjceecbbhaaDoor
open Go.RowKit Go.Rb
attribute [local irreducible] Go.wpQuiet

set_option maxRecDepth 20000 in
set_option maxHeartbeats 400000 in
theorem add_all (s : Ts) (r : Rc) (hs : List Ht) (A : Option Addr) (n c p : Nat) (hv : Value) (w : World) (h : Tr w p s hv) (hT : Tb w) (hp : 0 < p) (hx : I64 r.n ∧ r.t.length ≤ 60) (hl : hs.length = n) (hr : Rd w w.heap.size 2 A n (hts hs)) (hn : n ≤ 1000) (hov : s.over = false) (ht : s.tell = 0) :
    Calls Tryd.prog 10 #[pp p, rcv r, .slice A n c] w fun e w' => ∃ v, e = .returned v ∧ Own w' 9 1 v ((hs.filter (good r.t.length)).map (hline r)).length (lns ((hs.filter (good r.t.length)).map (hline r))) ∧ (∀ k, v.ownBlock = some k → w.heap.size ≤ k) ∧ Tr w' p s hv ∧ Below w.heap.size w w' := by
  obtain ⟨i0, hi0, hz0, hz1, hz2⟩ := info_parts infoS
  have hpl := h.1.lt
  have HTR := Lib.hid (h.alloc (.cells #[.int .i64 r.n, .int .i64 r.a, .string (mk r.t)] 29))
  have HBW := Lib.hid (below_al (Below.refl _ w) (.cells #[.int .i64 r.n, .int .i64 r.a, .string (mk r.t)] 29))
  have HSZ := Lib.hid (show (w.alloc (.cells #[.int .i64 r.n, .int .i64 r.a, .string (mk r.t)] 29)).heap.size = w.heap.size + 1 by simp)
  have HR1 := Lib.hid (Blk.new w 29 #[.int .i64 r.n, .int .i64 r.a, .string (mk r.t)])
  have HT1 := Lib.hid (hT.alloc (.cells #[.int .i64 r.n, .int .i64 r.a, .string (mk r.t)] 29))
  have HRD := Lib.hid (hr.below HBW.out)
  have HX := Lib.hid hx
  have c9 := HTR.out.1.cell 9
  simp only [tsc, List.getElem?_toArray, List.getElem?_cons_succ, List.getElem?_cons_zero, hov] at c9
  have HC0 : Hid (∀ W, Tr W p s hv → W.cell? ⟨p, 0, none⟩ = some (.int .i64 s.tell)) := fun W h => h.1.cell 0
  have hpg : (p == w.heap.size) = false := by rw [beq_eq_false_iff_ne]; omega
  have hgp : (w.heap.size == p) = false := by rw [beq_eq_false_iff_ne]; omega
  have HL := Lib.hid hl
  obtain ⟨g, hg⟩ : ∃ g, hs.filter (good r.t.length) = g := ⟨_, rfl⟩
  have hgl : g.length ≤ n := by rw [← hg, ← hl]; exact List.length_filter_le _ _
  have HGG : Hid (∀ x ∈ g, good r.t.length x = true) := fun x hx => by rw [← hg] at hx; exact (List.mem_filter.1 hx).2
  have HG := Lib.hid hg
  obtain ⟨m, hm'⟩ : ∃ m, g.length = m := ⟨_, rfl⟩
  rw [hm'] at hgl
  have HM := Lib.hid hm'
  rw [ht] at HC0
  rw [hg]
  have HLL : Hid ((g.map (hline r)).length = m) := (List.length_map ..).trans hm'
  clear ht
  clear h hT hr hl hx hov hg hm'
  unfold pp rcv
  go_enter Tryd.func10, Tryd.ntmps10
  go_wp2_with fail
  generalize w.alloc (.cells #[.int .i64 r.n, .int .i64 r.a, .string (mk r.t)] 29) = W1 at *
  refine (clone_any A n c w.heap.size hs W1 HRD.out (by have := HSZ.out; omega) hn).mono ?_
  rintro e1 w1 ⟨v1, rfl, hown1, hk1, hb1⟩
  obtain ⟨A1, c1, rfl, -, -⟩ := hown1.len_
  have HO1 := Lib.hid hown1
  have HB1 := Lib.hid hb1
  have HK1 := Lib.hid hk1
  clear hown1 hb1 hk1
  go_wp2_with fail
  refine (del_any r.t hs r.n r.a A1 n c1 w.heap.size w1 HL.out HO1.out (HR1.out.below HB1.out (by have := HSZ.out; omega)) hn).mono ?_
  rintro e2 w3 ⟨v3, rfl, hown3, hon3, hk3⟩
  rw [HG.out, HM.out] at hown3
  obtain ⟨A3, c3, rfl, -, -⟩ := hown3.len_
  have HO3 := Lib.hid hown3
  have HB3 : Hid (Below W1.heap.size W1 w3) := HB1.out.trans (hon3.below HB1.out.size (fun k hk => HK1.out k hk))
  clear hown3 hon3 hk3
  have HTR3 := Lib.hid (HTR.out.below HB3.out (Nat.le_refl _))
  have HR3 := Lib.hid (HR1.out.below HB3.out (by have := HSZ.out; omega))
  have HT3 := Lib.hid (HT1.out.below' HB3.out)
  have c0 := HC0.out _ HTR3.out
  have x0 := HR3.out.cell 0
  have x1 := HR3.out.cell 1
  have x2 := HR3.out.cell 2
  simp only [List.getElem?_toArray, List.getElem?_cons_succ, List.getElem?_cons_zero] at x0 x1 x2
  have HE := Lib.hid (each_any r g A3 m c3 w3 HM.out HO3.out HGG.out HT3.out HX.out.1 HX.out.2 (by omega))
  go_wp2_with (go_at_call 20; go_loud (refine HE.out.mono ?_; rintro e4 w4 ⟨v4, rfl, hown4, hk4, hb4⟩; have HO4 := Lib.hid hown4; have HK4 := Lib.hid hk4; have HB4 := Lib.hid hb4; clear hown4 hk4 hb4))
  go_ret
  refine ⟨_, rfl, by rw [HLL.out]; exact HO4.out, fun k hk => ?_, HTR3.out.below HB4.out (Nat.le_refl _), HBW.out.trans ((HB3.out.trans (HB4.out.mono HB3.out.size)).mono HBW.out.size)⟩
  have := HK4.out k hk
  have := HB3.out.size
  have := HSZ.out
  omega
set_option maxRecDepth 20000 in
set_option maxHeartbeats 400000 in
theorem add_ctx (s : Ts) (r : Rc) (hs : List Ht) (A : Option Addr) (n c p : Nat) (hv : Value) (w : World) (h : Tr w p s hv) (hT : Tb w) (hp : 0 < p) (hx : I64 r.n ∧ r.t.length ≤ 60) (hl : hs.length = n) (hr : Rd w w.heap.size 2 A n (hts hs)) (hn : n ≤ 1000) (hov : s.over = false) (ht : s.tell = 3) (hh : ∀ x ∈ s.held, I64 x.n ∧ x.t.length ≤ 60) (hm : s.held.length ≤ 100) (hmore : s.more ≤ 1000) :
    Calls Tryd.prog 10 #[pp p, rcv r, .slice A n c] w fun e w' => ∃ v hv', e = .returned v ∧ Own w' 9 1 v (ctx s r (decide (0 < (hs.filter (good r.t.length)).length))).1.length (lns (ctx s r (decide (0 < (hs.filter (good r.t.length)).length))).1) ∧ (∀ k, v.ownBlock = some k → w.heap.size ≤ k) ∧ Tr w' p (ctx s r (decide (0 < (hs.filter (good r.t.length)).length))).2 hv' ∧ (∀ k, hv'.ownBlock = some k → hv.ownBlock = some k ∨ w.heap.size ≤ k) ∧ Only (fun k => k = p ∨ hv.ownBlock = some k) w w' := by
  obtain ⟨i0, hi0, hz0, hz1, hz2⟩ := info_parts infoS
  have hpl := h.1.lt
  have HTR := Lib.hid (h.alloc (.cells #[.int .i64 r.n, .int .i64 r.a, .string (mk r.t)] 29))
  have HBW := Lib.hid (below_al (Below.refl _ w) (.cells #[.int .i64 r.n, .int .i64 r.a, .string (mk r.t)] 29))
  have HSZ := Lib.hid (show (w.alloc (.cells #[.int .i64 r.n, .int .i64 r.a, .string (mk r.t)] 29)).heap.size = w.heap.size + 1 by simp)
  have HR1 := Lib.hid (Blk.new w 29 #[.int .i64 r.n, .int .i64 r.a, .string (mk r.t)])
  have HT1 := Lib.hid (hT.alloc (.cells #[.int .i64 r.n, .int .i64 r.a, .string (mk r.t)] 29))
  have HRD := Lib.hid (hr.below HBW.out)
  have HX := Lib.hid hx
  have c9 := HTR.out.1.cell 9
  simp only [tsc, List.getElem?_toArray, List.getElem?_cons_succ, List.getElem?_cons_zero, hov] at c9
  have HC0 : Hid (∀ W, Tr W p s hv → W.cell? ⟨p, 0, none⟩ = some (.int .i64 s.tell)) := fun W h => h.1.cell 0
  have hpg : (p == w.heap.size) = false := by rw [beq_eq_false_iff_ne]; omega
  have hgp : (w.heap.size == p) = false := by rw [beq_eq_false_iff_ne]; omega
  have HL := Lib.hid hl
  obtain ⟨g, hg⟩ : ∃ g, hs.filter (good r.t.length) = g := ⟨_, rfl⟩
  have hgl : g.length ≤ n := by rw [← hg, ← hl]; exact List.length_filter_le _ _
  have HGG : Hid (∀ x ∈ g, good r.t.length x = true) := fun x hx => by rw [← hg] at hx; exact (List.mem_filter.1 hx).2
  have HG := Lib.hid hg
  obtain ⟨m, hm'⟩ : ∃ m, g.length = m := ⟨_, rfl⟩
  rw [hm'] at hgl
  have HM := Lib.hid hm'
  rw [ht] at HC0
  rw [hg]
  have HCT := Lib.hid (fun w b h hT => context_any s r b p hv w h hT hp hx hh hm hmore)
  clear hh hm hmore ht
  rw [hm']
  obtain ⟨CL, CS, hC⟩ : ∃ CL CS, ctx s r (decide (0 < m)) = (CL, CS) := ⟨_, _, rfl⟩
  have HCB := Lib.hid (fun w h hT => HCT.out w (decide (0 < m)) h hT)
  rw [hC] at HCB ⊢
  unfold pp rcv at HCB
  simp only at HCB ⊢
  clear hC HCT
  clear h hT hr hl hx hov hg hm'
  unfold pp rcv
  go_enter Tryd.func10, Tryd.ntmps10
  go_wp2_with fail
  generalize w.alloc (.cells #[.int .i64 r.n, .int .i64 r.a, .string (mk r.t)] 29) = W1 at *
  refine (clone_any A n c w.heap.size hs W1 HRD.out (by have := HSZ.out; omega) hn).mono ?_
  rintro e1 w1 ⟨v1, rfl, hown1, hk1, hb1⟩
  obtain ⟨A1, c1, rfl, -, -⟩ := hown1.len_
  have HO1 := Lib.hid hown1
  have HB1 := Lib.hid hb1
  have HK1 := Lib.hid hk1
  clear hown1 hb1 hk1
  go_wp2_with fail
  refine (del_any r.t hs r.n r.a A1 n c1 w.heap.size w1 HL.out HO1.out (HR1.out.below HB1.out (by have := HSZ.out; omega)) hn).mono ?_
  rintro e2 w3 ⟨v3, rfl, hown3, hon3, hk3⟩
  rw [HG.out, HM.out] at hown3
  obtain ⟨A3, c3, rfl, -, -⟩ := hown3.len_
  have HO3 := Lib.hid hown3
  have HB3 : Hid (Below W1.heap.size W1 w3) := HB1.out.trans (hon3.below HB1.out.size (fun k hk => HK1.out k hk))
  clear hown3 hon3 hk3
  have HTR3 := Lib.hid (HTR.out.below HB3.out (Nat.le_refl _))
  have HR3 := Lib.hid (HR1.out.below HB3.out (by have := HSZ.out; omega))
  have HT3 := Lib.hid (HT1.out.below' HB3.out)
  have c0 := HC0.out _ HTR3.out
  have x0 := HR3.out.cell 0
  have x1 := HR3.out.cell 1
  have x2 := HR3.out.cell 2
  simp only [List.getElem?_toArray, List.getElem?_cons_succ, List.getElem?_cons_zero] at x0 x1 x2
  have HE := Lib.hid (HCB.out w3 HTR3.out HT3.out)
  go_wp2_with (go_at_call 21; go_loud (refine HE.out.mono ?_; rintro e4 w4 ⟨v4, hv4, rfl, hown4, hk4, htr4, hkv4, hon4⟩; have HO4 := Lib.hid hown4; have HK4 := Lib.hid hk4; have HTR4 := Lib.hid htr4; have HKV4 := Lib.hid hkv4; have HON4 := Lib.hid hon4; clear hown4 hk4 htr4 hkv4 hon4))
  go_ret
  have h3 := HB3.out.size
  have h1 := HSZ.out
  refine ⟨_, _, rfl, HO4.out, fun k hk => ?_, HTR4.out, fun k hk => (HKV4.out k hk).imp id (fun h => by omega), ((Only.of_below (HBW.out.trans (HB3.out.mono HBW.out.size))).mono (fun k hk h => absurd h (by omega))).trans HON4.out (fun _ _ h => h)⟩
  have := HK4.out k hk
  omega
set_option maxRecDepth 20000 in
set_option maxHeartbeats 400000 in
theorem add_empty (s : Ts) (r : Rc) (hs : List Ht) (A : Option Addr) (n c p : Nat) (hv : Value) (w : World) (h : Tr w p s hv) (hT : Tb w) (hp : 0 < p) (hx : I64 r.n ∧ r.t.length ≤ 60) (hl : hs.length = n) (hr : Rd w w.heap.size 2 A n (hts hs)) (hn : n ≤ 1000) (hov : s.over = false) (ht : s.tell = 1 ∨ s.tell = 2) (h0 : (hs.filter (good r.t.length)).length = 0) :
    Calls Tryd.prog 10 #[pp p, rcv r, .slice A n c] w fun e w' => e = .returned (.slice none 0 0) ∧ Tr w' p s hv ∧ Below w.heap.size w w' := by
  obtain ⟨i0, hi0, hz0, hz1, hz2⟩ := info_parts infoS
  have hpl := h.1.lt
  have HTR := Lib.hid (h.alloc (.cells #[.int .i64 r.n, .int .i64 r.a, .string (mk r.t)] 29))
  have HBW := Lib.hid (below_al (Below.refl _ w) (.cells #[.int .i64 r.n, .int .i64 r.a, .string (mk r.t)] 29))
  have HSZ := Lib.hid (show (w.alloc (.cells #[.int .i64 r.n, .int .i64 r.a, .string (mk r.t)] 29)).heap.size = w.heap.size + 1 by simp)
  have HR1 := Lib.hid (Blk.new w 29 #[.int .i64 r.n, .int .i64 r.a, .string (mk r.t)])
  have HT1 := Lib.hid (hT.alloc (.cells #[.int .i64 r.n, .int .i64 r.a, .string (mk r.t)] 29))
  have HRD := Lib.hid (hr.below HBW.out)
  have HX := Lib.hid hx
  have c9 := HTR.out.1.cell 9
  simp only [tsc, List.getElem?_toArray, List.getElem?_cons_succ, List.getElem?_cons_zero, hov] at c9
  have HC0 : Hid (∀ W, Tr W p s hv → W.cell? ⟨p, 0, none⟩ = some (.int .i64 s.tell)) := fun W h => h.1.cell 0
  have hpg : (p == w.heap.size) = false := by rw [beq_eq_false_iff_ne]; omega
  have hgp : (w.heap.size == p) = false := by rw [beq_eq_false_iff_ne]; omega
  have HL := Lib.hid hl
  obtain ⟨g, hg⟩ : ∃ g, hs.filter (good r.t.length) = g := ⟨_, rfl⟩
  have hgl : g.length ≤ n := by rw [← hg, ← hl]; exact List.length_filter_le _ _
  have HGG : Hid (∀ x ∈ g, good r.t.length x = true) := fun x hx => by rw [← hg] at hx; exact (List.mem_filter.1 hx).2
  have HG := Lib.hid hg
  obtain ⟨m, hm'⟩ : ∃ m, g.length = m := ⟨_, rfl⟩
  rw [hm'] at hgl
  have HM := Lib.hid hm'
  obtain ⟨T, hT'⟩ : ∃ T, s.tell = T := ⟨_, rfl⟩
  rw [hT'] at HC0 ht
  have F1 : (T == 0) = false := by rw [beq_eq_false_iff_ne]; omega
  have F2 : (T == 3) = false := by rw [beq_eq_false_iff_ne]; omega
  rw [hg, hm'] at h0
  subst h0
  clear ht hT'
  clear h hT hr hl hx hov hg hm'
  unfold pp rcv
  go_enter Tryd.func10, Tryd.ntmps10
  go_wp2_with fail
  generalize w.alloc (.cells #[.int .i64 r.n, .int .i64 r.a, .string (mk r.t)] 29) = W1 at *
  refine (clone_any A n c w.heap.size hs W1 HRD.out (by have := HSZ.out; omega) hn).mono ?_
  rintro e1 w1 ⟨v1, rfl, hown1, hk1, hb1⟩
  obtain ⟨A1, c1, rfl, -, -⟩ := hown1.len_
  have HO1 := Lib.hid hown1
  have HB1 := Lib.hid hb1
  have HK1 := Lib.hid hk1
  clear hown1 hb1 hk1
  go_wp2_with fail
  refine (del_any r.t hs r.n r.a A1 n c1 w.heap.size w1 HL.out HO1.out (HR1.out.below HB1.out (by have := HSZ.out; omega)) hn).mono ?_
  rintro e2 w3 ⟨v3, rfl, hown3, hon3, hk3⟩
  rw [HG.out, HM.out] at hown3
  obtain ⟨A3, c3, rfl, -, -⟩ := hown3.len_
  have HO3 := Lib.hid hown3
  have HB3 : Hid (Below W1.heap.size W1 w3) := HB1.out.trans (hon3.below HB1.out.size (fun k hk => HK1.out k hk))
  clear hown3 hon3 hk3
  have HTR3 := Lib.hid (HTR.out.below HB3.out (Nat.le_refl _))
  have HR3 := Lib.hid (HR1.out.below HB3.out (by have := HSZ.out; omega))
  have HT3 := Lib.hid (HT1.out.below' HB3.out)
  have c0 := HC0.out _ HTR3.out
  have x0 := HR3.out.cell 0
  have x1 := HR3.out.cell 1
  have x2 := HR3.out.cell 2
  simp only [List.getElem?_toArray, List.getElem?_cons_succ, List.getElem?_cons_zero] at x0 x1 x2
  go_wp2_with fail
  go_ret
  exact ⟨rfl, HTR3.out, HBW.out.trans (HB3.out.mono HBW.out.size)⟩
set_option maxRecDepth 20000 in
set_option maxHeartbeats 400000 in
theorem add_count (s : Ts) (r : Rc) (hs : List Ht) (A : Option Addr) (n c p : Nat) (hv : Value) (w : World) (h : Tr w p s hv) (hT : Tb w) (hp : 0 < p) (hx : I64 r.n ∧ r.t.length ≤ 60) (hl : hs.length = n) (hr : Rd w w.heap.size 2 A n (hts hs)) (hn : n ≤ 1000) (hov : s.over = false) (ht : s.tell = 2) (h0 : 0 < (hs.filter (good r.t.length)).length) (hc1 : 0 ≤ s.records ∧ s.records ≤ 1000) (hc2 : 0 ≤ s.hits ∧ s.hits ≤ 1000000) :
    Calls Tryd.prog 10 #[pp p, rcv r, .slice A n c] w fun e w' => e = .returned (.slice none 0 0) ∧ Tr w' p { s with records := s.records + 1, hits := s.hits + (hs.filter (good r.t.length)).length } hv ∧ Only (fun k => k = p) w w' := by
  obtain ⟨i0, hi0, hz0, hz1, hz2⟩ := info_parts infoS
  have hpl := h.1.lt
  have HTR := Lib.hid (h.alloc (.cells #[.int .i64 r.n, .int .i64 r.a, .string (mk r.t)] 29))
  have HBW := Lib.hid (below_al (Below.refl _ w) (.cells #[.int .i64 r.n, .int .i64 r.a, .string (mk r.t)] 29))
  have HSZ := Lib.hid (show (w.alloc (.cells #[.int .i64 r.n, .int .i64 r.a, .string (mk r.t)] 29)).heap.size = w.heap.size + 1 by simp)
  have HR1 := Lib.hid (Blk.new w 29 #[.int .i64 r.n, .int .i64 r.a, .string (mk r.t)])
  have HT1 := Lib.hid (hT.alloc (.cells #[.int .i64 r.n, .int .i64 r.a, .string (mk r.t)] 29))
  have HRD := Lib.hid (hr.below HBW.out)
  have HX := Lib.hid hx
  have c9 := HTR.out.1.cell 9
  simp only [tsc, List.getElem?_toArray, List.getElem?_cons_succ, List.getElem?_cons_zero, hov] at c9
  have HC0 : Hid (∀ W, Tr W p s hv → W.cell? ⟨p, 0, none⟩ = some (.int .i64 s.tell)) := fun W h => h.1.cell 0
  have hpg : (p == w.heap.size) = false := by rw [beq_eq_false_iff_ne]; omega
  have hgp : (w.heap.size == p) = false := by rw [beq_eq_false_iff_ne]; omega
  have HL := Lib.hid hl
  obtain ⟨g, hg⟩ : ∃ g, hs.filter (good r.t.length) = g := ⟨_, rfl⟩
  have hgl : g.length ≤ n := by rw [← hg, ← hl]; exact List.length_filter_le _ _
  have HGG : Hid (∀ x ∈ g, good r.t.length x = true) := fun x hx => by rw [← hg] at hx; exact (List.mem_filter.1 hx).2
  have HG := Lib.hid hg
  obtain ⟨m, hm'⟩ : ∃ m, g.length = m := ⟨_, rfl⟩
  rw [hm'] at hgl
  have HM := Lib.hid hm'
  rw [ht] at HC0
  rw [hg, hm'] at h0 ⊢
  have HC34 : Hid (∀ W, Tr W p s hv → W.cell? ⟨p, 3, none⟩ = some (.int .i64 s.records) ∧ W.cell? ⟨p, 4, none⟩ = some (.int .i64 s.hits) ∧ W.frozen? ⟨p, 3, none⟩ = false ∧ W.frozen? ⟨p, 4, none⟩ = false) := fun W h => ⟨h.1.cell 3, h.1.cell 4, h.1.frozen 3, h.1.frozen 4⟩
  have HFT : Hid (∀ W, Tr W p s hv → Tr ((W.setCell ⟨p, 3, none⟩ (.int .i64 (s.records + 1))).setCell ⟨p, 4, none⟩ (.int .i64 (s.hits + m))) p { s with records := s.records + 1, hits := s.hits + m } hv) := fun W h => ⟨(h.1.set_ 3 (.int .i64 (s.records + 1))).set_ 4 (.int .i64 (s.hits + m)), (h.2.setCell (p := ⟨p, 3, none⟩) h.own_ne _).setCell (p := ⟨p, 4, none⟩) h.own_ne _⟩
  obtain ⟨SF, hSF⟩ : ∃ SF, { s with records := s.records + 1, hits := s.hits + m } = SF := ⟨_, rfl⟩
  rw [hSF] at HFT ⊢
  clear hSF ht
  obtain ⟨R, hR⟩ : ∃ R, s.records = R := ⟨_, rfl⟩
  obtain ⟨T, hT'⟩ : ∃ R, s.hits = R := ⟨_, rfl⟩
  rw [hR] at HC34 HFT hc1
  rw [hT'] at HC34 HFT hc2
  clear hR hT'
  obtain ⟨q1, q2⟩ := hc1
  obtain ⟨q3, q4⟩ := hc2
  have F1 : ((m : Int) == 0) = false := by rw [beq_eq_false_iff_ne]; omega
  clear h hT hr hl hx hov hg hm'
  unfold pp rcv
  go_enter Tryd.func10, Tryd.ntmps10
  go_wp2_with fail
  generalize w.alloc (.cells #[.int .i64 r.n, .int .i64 r.a, .string (mk r.t)] 29) = W1 at *
  refine (clone_any A n c w.heap.size hs W1 HRD.out (by have := HSZ.out; omega) hn).mono ?_
  rintro e1 w1 ⟨v1, rfl, hown1, hk1, hb1⟩
  obtain ⟨A1, c1, rfl, -, -⟩ := hown1.len_
  have HO1 := Lib.hid hown1
  have HB1 := Lib.hid hb1
  have HK1 := Lib.hid hk1
  clear hown1 hb1 hk1
  go_wp2_with fail
  refine (del_any r.t hs r.n r.a A1 n c1 w.heap.size w1 HL.out HO1.out (HR1.out.below HB1.out (by have := HSZ.out; omega)) hn).mono ?_
  rintro e2 w3 ⟨v3, rfl, hown3, hon3, hk3⟩
  rw [HG.out, HM.out] at hown3
  obtain ⟨A3, c3, rfl, -, -⟩ := hown3.len_
  have HO3 := Lib.hid hown3
  have HB3 : Hid (Below W1.heap.size W1 w3) := HB1.out.trans (hon3.below HB1.out.size (fun k hk => HK1.out k hk))
  clear hown3 hon3 hk3
  have HTR3 := Lib.hid (HTR.out.below HB3.out (Nat.le_refl _))
  have HR3 := Lib.hid (HR1.out.below HB3.out (by have := HSZ.out; omega))
  have HT3 := Lib.hid (HT1.out.below' HB3.out)
  have c0 := HC0.out _ HTR3.out
  have x0 := HR3.out.cell 0
  have x1 := HR3.out.cell 1
  have x2 := HR3.out.cell 2
  simp only [List.getElem?_toArray, List.getElem?_cons_succ, List.getElem?_cons_zero] at x0 x1 x2
  obtain ⟨c3', c4', z3, z4⟩ := HC34.out _ HTR3.out
  have hm3 : (m : Int) ≤ 1000 := by omega
  have hm4 : (0 : Int) ≤ (m : Int) := by omega
  go_wp2_with fail
  go_ret
  have ho : Only (fun k => k = p) w w3 := (Only.of_below (HBW.out.trans (HB3.out.mono HBW.out.size))).mono (fun k hk h => absurd h (by omega))
  exact ⟨rfl, HFT.out _ HTR3.out, (ho.setCell (p := ⟨p, 3, none⟩) (fun _ => rfl) _).setCell (p := ⟨p, 4, none⟩) (fun _ => rfl) _⟩
end Go.Proofs.YtbgmdjceecbbhaaDoor
