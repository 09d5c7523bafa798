/-
  The contract of Add where the first is told, and where it is over; no condition beyond those that each theorem states.
-/
import Derived.Test.YtbgmdjceecbbhaaDoorMode12
namespace Go.Proofs.YtbgmdjceecbbhaaDoor
open Go.RowKit Go.Rb
attribute [local irreducible] Go.wpQuiet

def newsRow2 (B : Nat) (x : Value) : Row (fun W W' => Below W.heap.size W W') := ⟨fun v W => ∃ g, v = .slice (some ⟨g, 0, none⟩) 1 1 ∧ Blk W g 9 #[x] ∧ B ≤ g, fun _ _ _ ⟨g, e, h, hb⟩ hR => ⟨g, e, h.below hR h.lt, hb⟩⟩
theorem newsRow2_mk {B : Nat} (x : Value) (W : World) (h : B ≤ W.heap.size) : (newsRow2 B x).p (.slice (some ⟨W.heap.size, 0, none⟩) 1 1) (W.alloc (.cells #[x] 9)) := ⟨_, rfl, Blk.new _ _ _, h⟩
theorem own_one {W : World} {g : Nat} {t : TypeId} {x : Value} (h : Blk W g t #[x]) : Own W t 1 (.slice (some ⟨g, 0, none⟩) 1 1) 1 [x] :=
  ⟨rfl, .inr ⟨g, 0, 1, #[x], rfl, h, Nat.le_refl _, by decide, by simp, by simp⟩⟩
set_option maxRecDepth 20000 in
set_option maxHeartbeats 400000 in
theorem add_first (s : Ts) (r : Rc) (hs : List Ht) (A : Option Addr) (n c p : Nat) (hv : Value) (w : World) (h : Tr w p s hv) (hT : Tb w) (hp : 0 < p) (hx : I64 r.n ∧ r.t.length ≤ 60) (hl : hs.length = n) (hr : Rd w w.heap.size 2 A n (hts hs)) (hn : n ≤ 1000) (hov : s.over = false) (ht : s.tell = 1) (h0 : 0 < (hs.filter (good r.t.length)).length) :
    Calls Tryd.prog 10 #[pp p, rcv r, .slice A n c] w fun e w' => ∃ v, e = .returned v ∧ Own w' 9 1 v 1 (lns [line r 58]) ∧ (∀ k, v.ownBlock = some k → w.heap.size ≤ k) ∧ Tr w' p { s with over := true, enough := true } hv ∧ Only (fun k => k = p) w w' := by
  obtain ⟨i0, hi0, hz0, hz1, hz2⟩ := info_parts infoS
  have hpl := h.1.lt
  have HTR := Lib.hid (h.alloc (.cells #[.int .i64 r.n, .int .i64 r.a, .string (mk r.t)] 29))
  have HBW := Lib.hid (below_al (Below.refl _ w) (.cells #[.int .i64 r.n, .int .i64 r.a, .string (mk r.t)] 29))
  have HSZ := Lib.hid (show (w.alloc (.cells #[.int .i64 r.n, .int .i64 r.a, .string (mk r.t)] 29)).heap.size = w.heap.size + 1 by simp)
  have HR1 := Lib.hid (Blk.new w 29 #[.int .i64 r.n, .int .i64 r.a, .string (mk r.t)])
  have HT1 := Lib.hid (hT.alloc (.cells #[.int .i64 r.n, .int .i64 r.a, .string (mk r.t)] 29))
  have HRD := Lib.hid (hr.below HBW.out)
  have HX := Lib.hid hx
  have c9 := HTR.out.1.cell 9
  simp only [tsc, List.getElem?_toArray, List.getElem?_cons_succ, List.getElem?_cons_zero, hov] at c9
  have HC0 : Hid (∀ W, Tr W p s hv → W.cell? ⟨p, 0, none⟩ = some (.int .i64 s.tell)) := fun W h => h.1.cell 0
  have hpg : (p == w.heap.size) = false := by rw [beq_eq_false_iff_ne]; omega
  have hgp : (w.heap.size == p) = false := by rw [beq_eq_false_iff_ne]; omega
  have HL := Lib.hid hl
  obtain ⟨g, hg⟩ : ∃ g, hs.filter (good r.t.length) = g := ⟨_, rfl⟩
  have hgl : g.length ≤ n := by rw [← hg, ← hl]; exact List.length_filter_le _ _
  have HGG : Hid (∀ x ∈ g, good r.t.length x = true) := fun x hx => by rw [← hg] at hx; exact (List.mem_filter.1 hx).2
  have HG := Lib.hid hg
  obtain ⟨m, hm'⟩ : ∃ m, g.length = m := ⟨_, rfl⟩
  rw [hm'] at hgl
  have HM := Lib.hid hm'
  rw [ht] at HC0
  rw [hg, hm'] at h0
  have HC34 : Hid (∀ W, Tr W p s hv → (∃ u, W.cell? ⟨p, 9, none⟩ = some u) ∧ (∃ u, W.cell? ⟨p, 10, none⟩ = some u) ∧ W.frozen? ⟨p, 9, none⟩ = false ∧ W.frozen? ⟨p, 10, none⟩ = false) := fun W h => ⟨⟨_, h.1.cell 9⟩, ⟨_, h.1.cell 10⟩, h.1.frozen 9, h.1.frozen 10⟩
  have HFT : Hid (∀ W, Tr W p s hv → Tr ((W.setCell ⟨p, 9, none⟩ (.bool true)).setCell ⟨p, 10, none⟩ (.bool true)) p { s with over := true, enough := true } hv) := fun W h => ⟨(h.1.set_ 9 (.bool true)).set_ 10 (.bool true), (h.2.setCell (p := ⟨p, 9, none⟩) h.own_ne _).setCell (p := ⟨p, 10, none⟩) h.own_ne _⟩
  obtain ⟨SF, hSF⟩ : ∃ SF, { s with over := true, enough := true } = SF := ⟨_, rfl⟩
  rw [hSF] at HFT ⊢
  clear hSF ht
  have F1 : ((m : Int) == 0) = false := by rw [beq_eq_false_iff_ne]; omega
  have hNB : Hid (∀ W, Tb W → Calls Tryd.prog 22 #[.int .i64 r.n] W fun e w' => e = .returned (.string (mk (Lib.itoa r.n))) ∧ Below W.heap.size W w') := fun W h => number_any r.n hx.1 W h
  have hns : (mk (Lib.itoa r.n)).size ≤ 20 := itoa_len r.n hx.1
  have hts : (mk r.t).size ≤ 60 := hx.2
  have hlv : mk (Lib.itoa r.n) ++ ⟨#[58]⟩ ++ mk r.t = mk (line r 58) := by rw [show (⟨#[58]⟩ : ByteArray) = mk [58] from rfl, mk_append, mk_append]; rfl
  obtain ⟨ln, hln⟩ : ∃ ln, line r 58 = ln := ⟨_, rfl⟩
  rw [hln] at hlv ⊢
  clear hln
  have HLV := Lib.hid hlv
  clear hlv
  clear h hT hr hl hx hov hg hm'
  unfold pp rcv
  go_enter Tryd.func10, Tryd.ntmps10
  go_wp2_with fail
  generalize w.alloc (.cells #[.int .i64 r.n, .int .i64 r.a, .string (mk r.t)] 29) = W1 at *
  refine (clone_any A n c w.heap.size hs W1 HRD.out (by have := HSZ.out; omega) hn).mono ?_
  rintro e1 w1 ⟨v1, rfl, hown1, hk1, hb1⟩
  obtain ⟨A1, c1, rfl, -, -⟩ := hown1.len_
  have HO1 := Lib.hid hown1
  have HB1 := Lib.hid hb1
  have HK1 := Lib.hid hk1
  clear hown1 hb1 hk1
  go_wp2_with fail
  refine (del_any r.t hs r.n r.a A1 n c1 w.heap.size w1 HL.out HO1.out (HR1.out.below HB1.out (by have := HSZ.out; omega)) hn).mono ?_
  rintro e2 w3 ⟨v3, rfl, hown3, hon3, hk3⟩
  rw [HG.out, HM.out] at hown3
  obtain ⟨A3, c3, rfl, -, -⟩ := hown3.len_
  have HO3 := Lib.hid hown3
  have HB3 : Hid (Below W1.heap.size W1 w3) := HB1.out.trans (hon3.below HB1.out.size (fun k hk => HK1.out k hk))
  clear hown3 hon3 hk3
  have HTR3 := Lib.hid (HTR.out.below HB3.out (Nat.le_refl _))
  have HR3 := Lib.hid (HR1.out.below HB3.out (by have := HSZ.out; omega))
  have HT3 := Lib.hid (HT1.out.below' HB3.out)
  have c0 := HC0.out _ HTR3.out
  have x0 := HR3.out.cell 0
  have x1 := HR3.out.cell 1
  have x2 := HR3.out.cell 2
  simp only [List.getElem?_toArray, List.getElem?_cons_succ, List.getElem?_cons_zero] at x0 x1 x2
  obtain ⟨⟨u9, c9'⟩, ⟨u10, c10'⟩, z9, z10⟩ := HC34.out _ HTR3.out
  have ho : Only (fun k => k = p) w w3 := (Only.of_below (HBW.out.trans (HB3.out.mono HBW.out.size))).mono (fun k hk h => absurd h (by omega))
  have HON := Lib.hid ((ho.setCell (p := ⟨p, 9, none⟩) (fun _ => rfl) (.bool true)).setCell (p := ⟨p, 10, none⟩) (fun _ => rfl) (.bool true))
  have HTR4 := Lib.hid (HFT.out _ HTR3.out)
  have HT5 := Lib.hid ((HT3.out.setCell (a := ⟨p, 9, none⟩) (by show p ≠ 0; omega) (.bool true)).setCell (a := ⟨p, 10, none⟩) (by show p ≠ 0; omega) (.bool true))
  have hr4 : Blk ((w3.setCell ⟨p, 9, none⟩ (.bool true)).setCell ⟨p, 10, none⟩ (.bool true)) w.heap.size 29 #[.int .i64 r.n, .int .i64 r.a, .string (mk r.t)] := (HR3.out.far (p := ⟨p, 9, none⟩) (by show w.heap.size ≠ p; omega) _).far (p := ⟨p, 10, none⟩) (by show w.heap.size ≠ p; omega) _
  have HR4 := Lib.hid hr4
  clear ho hr4
  go_wp2_with fail
  generalize (w3.setCell ⟨p, 9, none⟩ (.bool true)).setCell ⟨p, 10, none⟩ (.bool true) = W4 at *
  have y0 := HR4.out.drew.cell 0
  have y2 := HR4.out.drew.cell 2
  have hg4 : w.heap.size < W4.drew.heap.size := HR4.out.lt
  simp only [List.getElem?_toArray, List.getElem?_cons_succ, List.getElem?_cons_zero] at y0 y2
  have HT4 := Lib.hid HT5.out.drew
  have HNB := hNB
  generalize mk (Lib.itoa r.n) = NS at *
  generalize mk r.t = TS at *
  generalize r.n = rn at *
  refine region_tail 8 (by kernel_rfl) (by kernel_rfl) (fun W W' => Below W.heap.size W W')
    [.val (.pointer (some ⟨w.heap.size, 0, none⟩)),
     .val (.int .i64 rn),
     .val (.string NS),
     .val (.string (NS ++ ⟨#[58]⟩)),
     .val (.pointer (some ⟨w.heap.size, 2, none⟩)),
     .val (.string TS),
     .val (.string ((NS ++ ⟨#[58]⟩) ++ TS)),
     newsRow2 W4.drew.heap.size (.string ((NS ++ ⟨#[58]⟩) ++ TS))]
    (fun W => Below.refl _ W) (fun _ _ _ h k => below_trans h k) (by kernel_rfl) ?_ ?_
  · refine ⟨?_, ?_, ?_, ?_, ?_, ?_, ?_, ?_, trivial⟩
    · intro ra RW hR hk hd K hK
      obtain ⟨e4, g4⟩ := hk 4 (.pointer (some ⟨w.heap.size, 0, none⟩)) (by kernel_rfl) rfl
      clear hk hd
      have HR := Lib.hid hR
      clear hR
      go_simp
      exact hK _ _ (Below.refl _ _) rfl
    · intro ra RW hR hk hd K hK
      obtain ⟨v46, e46, g46, f46⟩ := hd 0 46 (by kernel_rfl) rfl
      have f46 : v46 = .pointer (some ⟨w.heap.size, 0, none⟩) := f46
      subst f46
      clear hk hd
      have HR := Lib.hid hR
      clear hR
      have dd0 := (HR.out.cell (p := ⟨w.heap.size, 0, none⟩) hg4).trans y0
      go_simp
      exact hK _ _ (Below.refl _ _) rfl
    · intro ra RW hR hk hd K hK
      obtain ⟨v47, e47, g47, f47⟩ := hd 1 47 (by kernel_rfl) rfl
      have f47 : v47 = .int .i64 rn := f47
      subst f47
      clear hk hd
      have HR := Lib.hid hR
      clear hR
      go_simp
      refine (HNB.out RW (HT4.out.below' HR.out)).mono ?_
      rintro e w2 ⟨rfl, hb2⟩
      exact hK _ _ hb2 rfl
    · intro ra RW hR hk hd K hK
      obtain ⟨v48, e48, g48, f48⟩ := hd 2 48 (by kernel_rfl) rfl
      have f48 : v48 = .string NS := f48
      subst f48
      clear hk hd
      have HR := Lib.hid hR
      clear hR
      go_simp
      rw [if_neg (by omega)]
      go_simp
      exact hK _ _ (Below.refl _ _) rfl
    · intro ra RW hR hk hd K hK
      obtain ⟨e4, g4⟩ := hk 4 (.pointer (some ⟨w.heap.size, 0, none⟩)) (by kernel_rfl) rfl
      clear hk hd
      have HR := Lib.hid hR
      clear hR
      go_simp
      exact hK _ _ (Below.refl _ _) rfl
    · intro ra RW hR hk hd K hK
      obtain ⟨v50, e50, g50, f50⟩ := hd 4 50 (by kernel_rfl) rfl
      have f50 : v50 = .pointer (some ⟨w.heap.size, 2, none⟩) := f50
      subst f50
      clear hk hd
      have HR := Lib.hid hR
      clear hR
      have dd0 := (HR.out.cell (p := ⟨w.heap.size, 2, none⟩) hg4).trans y2
      go_simp
      exact hK _ _ (Below.refl _ _) rfl
    · intro ra RW hR hk hd K hK
      obtain ⟨v49, e49, g49, f49⟩ := hd 3 49 (by kernel_rfl) rfl
      have f49 : v49 = .string (NS ++ ⟨#[58]⟩) := f49
      subst f49
      obtain ⟨v51, e51, g51, f51⟩ := hd 5 51 (by kernel_rfl) rfl
      have f51 : v51 = .string TS := f51
      subst f51
      clear hk hd
      have HR := Lib.hid hR
      clear hR
      go_simp
      rw [if_neg (by omega)]
      go_simp
      exact hK _ _ (Below.refl _ _) rfl
    · intro ra RW hR hk hd K hK
      obtain ⟨v52, e52, g52, f52⟩ := hd 6 52 (by kernel_rfl) rfl
      have f52 : v52 = .string ((NS ++ ⟨#[58]⟩) ++ TS) := f52
      subst f52
      clear hk hd
      have HR := Lib.hid hR
      clear hR
      go_simp
      exact hK _ _ (below_al (Below.refl _ _) _) (newsRow2_mk _ _ HR.out.size)
  intro vs RW hR hF
  have q0 : vs 0 = .pointer (some ⟨w.heap.size, 0, none⟩) := hF 0 (by decide)
  have q1 : vs 1 = .int .i64 rn := hF 1 (by decide)
  have q2 : vs 2 = .string NS := hF 2 (by decide)
  have q3 : vs 3 = .string (NS ++ ⟨#[58]⟩) := hF 3 (by decide)
  have q4 : vs 4 = .pointer (some ⟨w.heap.size, 2, none⟩) := hF 4 (by decide)
  have q5 : vs 5 = .string TS := hF 5 (by decide)
  have q6 : vs 6 = .string ((NS ++ ⟨#[58]⟩) ++ TS) := hF 6 (by decide)
  have F53 := Lib.hid (hF 7 (by decide))
  simp only [List.take_succ_cons, List.take_zero, List.drop_succ_cons, List.drop_zero, setAll, List.setIfInBounds_toArray, List.set_cons_zero, List.set_cons_succ, q0, q1, q2, q3, q4, q5, q6]
  clear hF q0 q1 q2 q3 q4 q5 q6
  generalize vs 7 = v53 at *
  clear vs
  have HRW := Lib.hid hR
  clear hR
  obtain ⟨g42, rfl, hnw, hng⟩ := F53.out
  have HNW := Lib.hid hnw
  clear hnw
  go_wp2_with fail
  go_ret
  have hsz := HON.out.size
  have hszw := HRW.out.size
  refine ⟨_, rfl, ?_, ?_, HTR4.out.drew.below HRW.out (Nat.le_refl _), HON.out.drew.trans (Only.of_below HRW.out) (fun k hk h => by have h : W4.drew.heap.size ≤ k := h; have : w.heap.size ≤ W4.drew.heap.size := hsz; omega)⟩
  · have := own_one HNW.out
    rw [HLV.out] at this
    exact this
  · intro k hk
    obtain rfl : g42 = k := Option.some.inj hk
    have hng : W4.drew.heap.size ≤ g42 := hng
    have : w.heap.size ≤ W4.drew.heap.size := hsz
    omega
set_option maxRecDepth 20000 in
theorem add_over (s : Ts) (r : Rc) (A : Option Addr) (n c p : Nat) (hv : Value) (w : World) (h : Tr w p s hv) (hov : s.over = true) :
    Calls Tryd.prog 10 #[pp p, rcv r, .slice A n c] w fun e w' => e = .returned (.slice none 0 0) ∧ Tr w' p s hv ∧ Below w.heap.size w w' := by
  have HTR := Lib.hid (h.alloc (.cells #[.int .i64 r.n, .int .i64 r.a, .string (mk r.t)] 29))
  have HBW := Lib.hid (below_al (Below.refl _ w) (.cells #[.int .i64 r.n, .int .i64 r.a, .string (mk r.t)] 29))
  have c9 := HTR.out.1.cell 9
  simp only [tsc, List.getElem?_toArray, List.getElem?_cons_succ, List.getElem?_cons_zero, hov] at c9
  clear h hov
  unfold pp rcv
  go_enter Tryd.func10, Tryd.ntmps10
  go_wp2_with fail
  go_ret
  exact ⟨rfl, HTR.out, HBW.out⟩
end Go.Proofs.YtbgmdjceecbbhaaDoor
