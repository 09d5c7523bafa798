/-
  The contract of Teller.record; no condition beyond those that each theorem states.
-/
import Derived.Test.YtbgmdjceecbbhaaDoorMode4
namespace Go.Proofs.YtbgmdjceecbbhaaDoor
open Go.RowKit Go.Rb
attribute [local irreducible] Go.wpQuiet

def sepOf (s : Ts) (r : Rc) : List (List UInt8) := if s.any && (r.n != wrap64 (s.last + 1)) then [[45, 45]] else []
def line (r : Rc) (sg : UInt8) : List UInt8 := Lib.itoa r.n ++ [sg] ++ r.t
def told (s : Ts) (r : Rc) : Ts := { s with any := true, last := r.n }
theorem nDigits_le : ∀ (k u : Nat), 1 ≤ k → u < 10 ^ k → Lib.nDigits u ≤ k
  | 0, _, h, _ => absurd h (by omega)
  | 1, u, _, h => by rw [Lib.nDigits_small (by simpa using h)]; exact Nat.le_refl _
  | k + 2, u, _, h => by
    by_cases hu : u < 10
    · rw [Lib.nDigits_small hu]; omega
    · rw [Lib.nDigits_big hu]
      have := nDigits_le (k + 1) (u / 10) (by omega) (by rw [Nat.div_lt_iff_lt_mul (by decide)]; rw [Nat.pow_succ] at h; exact h)
      omega
theorem itoa_len (n : Int) (hn : I64 n) : (Lib.itoa n).length ≤ 20 := by
  have hn := hn
  unfold I64 at hn
  unfold Lib.itoa
  split
  · rw [List.length_cons, Lib.decDigits_length]
    have := nDigits_le 19 n.natAbs (by decide) (by omega)
    omega
  · rw [Lib.decDigits_length]
    have := nDigits_le 19 n.toNat (by decide) (by omega)
    omega
theorem Tb.setCell {w : World} (h : Tb w) {a : Addr} (ha : a.block ≠ 0) (u : Value) : Tb (w.setCell a u) := h.block (Below.heap_setCell w a u 0 (fun e => ha e.symm))
theorem Tb.drewN {w : World} (h : Tb w) (q : Nat) : Tb (w.drewN q) := h.block rfl
theorem news_blk {W : World} {g : Nat} {t : TypeId} {cs : Array Value} (h : Blk W g t cs) : ∀ (j : Nat) u, cs.toList[j]? = some u → W.cell? ((⟨g, 0, none⟩ : Addr).add j) = some u := fun j u hu => by
  rw [Rb.add_plain, Nat.zero_add, h.cell j, ← hu, Array.getElem?_toList]
theorem after4 {w V : World} {p g : Nat} {s : Ts} {hv : Value} {n ra : Int} {T : ByteArray} (r : Rc) (hrn : r.n = n) (hon : Only (fun k => k = p) w V) (hb : Blk V p 53 (tsc s hv)) (hr : Blk V g 29 #[.int .i64 n, .int .i64 ra, .string T]) (ho : Own V 29 3 hv s.held.length (rcs s.held)) (hT : Tb V) (hp : 0 < p)
    {ov : Value} {on : Nat} {ol : List Value} (hou : Own V 9 1 ov on ol) (q : Nat) (W4 : World) (hW : W4 = ((V.setCell ⟨p, 8, none⟩ (.bool true)).setCell ⟨p, 7, none⟩ (.int .i64 n)).drewN q) :
    Only (fun k => k = p) w W4 ∧ Blk W4 p 53 (tsc (told s r) hv) ∧ Blk W4 g 29 #[.int .i64 n, .int .i64 ra, .string T] ∧ Own W4 29 3 hv s.held.length (rcs s.held) ∧ Tb W4 ∧ Own W4 9 1 ov on ol ∧ W4.heap.size = V.heap.size := by
  have hgp : g ≠ p := hr.ne_ hb (by decide)
  have h1 : hv.ownBlock ≠ some p := own_ne_blk' ho hb (by decide)
  have h2 : ov.ownBlock ≠ some p := own_ne_blk' hou hb (by decide)
  subst hW
  refine ⟨((hon.setCell (p := ⟨p, 8, none⟩) (fun _ => rfl) _).setCell (p := ⟨p, 7, none⟩) (fun _ => rfl) _).drewN q, ?_, (((hr.far (p := ⟨p, 8, none⟩) hgp _).far (p := ⟨p, 7, none⟩) hgp _).drewN q), (((ho.setCell (p := ⟨p, 8, none⟩) h1 _).setCell (p := ⟨p, 7, none⟩) h1 _).drewN q), (((hT.setCell (a := ⟨p, 8, none⟩) (by show p ≠ 0; omega) _).setCell (a := ⟨p, 7, none⟩) (by show p ≠ 0; omega) _).drewN q), (((hou.setCell (p := ⟨p, 8, none⟩) h2 _).setCell (p := ⟨p, 7, none⟩) h2 _).drewN q), ?_⟩
  · have := (((hb.set_ 8 (.bool true)).set_ 7 (.int .i64 n)).drewN q)
    rw [show tsc (told s r) hv = ((tsc s hv).setIfInBounds 8 (.bool true)).setIfInBounds 7 (.int .i64 n) by simp [tsc, told, hrn]]
    exact this
  · show ((V.setCell ⟨p, 8, none⟩ (.bool true)).setCell ⟨p, 7, none⟩ (.int .i64 n)).heap.size = _
    simp
set_option maxRecDepth 20000 in
set_option maxHeartbeats 4000000 in
theorem record_any (s : Ts) (r : Rc) (sg : UInt8) (p : Nat) (hv : Value) (w : World) (h : Tr w p s hv) (hT : Tb w) (hp : 0 < p) (hn : I64 r.n) (ht : r.t.length ≤ 60) :
    Calls Tryd.prog 26 #[pp p, rcv r, .string (mk [sg])] w fun e w' => ∃ v, e = .returned v ∧ Own w' 9 1 v (sepOf s r ++ [line r sg]).length (lns (sepOf s r ++ [line r sg])) ∧ (∀ k, v.ownBlock = some k → w.heap.size ≤ k) ∧ Tr w' p (told s r) hv ∧ Only (fun k => k = p) w w' := by
  obtain ⟨i0, hi0, hz0, hz1, hz2⟩ := info_parts infoS
  obtain ⟨hb, ho⟩ := h
  have hpl := hb.lt
  have hc : Hid (∀ W, Blk W p 53 (tsc s hv) → W.cell? ⟨p, 8, none⟩ = some (.bool s.any) ∧ W.cell? ⟨p, 7, none⟩ = some (.int .i64 s.last) ∧ W.frozen? ⟨p, 8, none⟩ = false ∧ W.frozen? ⟨p, 7, none⟩ = false) := fun W h => ⟨h.cell 8, h.cell 7, h.frozen 8, h.frozen 7⟩
  have HO := Lib.hid ho
  have HB := Lib.hid hb
  have HT := Lib.hid hT
  have hsp : sepOf s r = if s.any && (r.n != wrap64 (s.last + 1)) then [[45, 45]] else [] := rfl
  have hNB : ∀ W, Tb W → Calls Tryd.prog 22 #[.int .i64 r.n] W fun e w' => e = .returned (.string (mk (Lib.itoa r.n))) ∧ Below W.heap.size W w' := fun W h => number_any r.n hn W h
  have hns : (mk (Lib.itoa r.n)).size ≤ 20 := itoa_len r.n hn
  have hts : (mk r.t).size ≤ 60 := ht
  have hss : (mk [sg]).size = 1 := rfl
  have hlv : mk (Lib.itoa r.n) ++ mk [sg] ++ mk r.t = mk (line r sg) := by rw [mk_append, mk_append]; rfl
  generalize sepOf s r = sp at *
  generalize line r sg = ln at *
  obtain ⟨tr, htr⟩ : ∃ tr, told s r = tr := ⟨_, rfl⟩
  obtain ⟨n, hrn⟩ : ∃ n, r.n = n := ⟨_, rfl⟩
  obtain ⟨ra, hra⟩ : ∃ n, r.a = n := ⟨_, rfl⟩
  obtain ⟨t, hrt⟩ : ∃ n, r.t = n := ⟨_, rfl⟩
  rw [htr]
  unfold rcv pp
  rw [hrn, hra, hrt]
  rw [hrn] at hNB hns hsp hlv
  rw [hrt] at hts hlv
  have HRN := Lib.hid hrn
  have HTRE := Lib.hid htr
  clear hb ho hT hn ht hra hrt hrn htr
  generalize mk (Lib.itoa n) = NS at *
  generalize mk [sg] = SG at *
  generalize mk t = TS at *
  have HLV := Lib.hid hlv
  have HNB := Lib.hid hNB
  obtain ⟨b, hb⟩ : ∃ b, s.any = b := ⟨_, rfl⟩
  obtain ⟨l, hl⟩ : ∃ l, s.last = l := ⟨_, rfl⟩
  rw [hb, hl] at hsp hc
  clear hb hl hlv hNB
  have HBW := Lib.hid (below_al (Below.refl _ w) (.cells #[.int .i64 n, .int .i64 ra, .string TS] 29))
  have HSZ := Lib.hid (show (w.alloc (.cells #[.int .i64 n, .int .i64 ra, .string TS] 29)).heap.size = w.heap.size + 1 by simp)
  have HR1 := Lib.hid (Blk.new w 29 #[.int .i64 n, .int .i64 ra, .string TS])
  have HB1 := Lib.hid (HB.out.alloc (.cells #[.int .i64 n, .int .i64 ra, .string TS] 29))
  have HO1 := Lib.hid (HO.out.alloc (.cells #[.int .i64 n, .int .i64 ra, .string TS] 29))
  have HT1 := Lib.hid (HT.out.alloc (.cells #[.int .i64 n, .int .i64 ra, .string TS] 29))
  obtain ⟨c8, c7, z8, z7⟩ := hc.out _ HB1.out
  have x0 := HR1.out.cell 0
  have x2 := HR1.out.cell 2
  simp only [List.getElem?_toArray, List.getElem?_cons_succ, List.getElem?_cons_zero] at x0 x2
  have hpg : (p == w.heap.size) = false := by rw [beq_eq_false_iff_ne]; omega
  have hgp : (w.heap.size == p) = false := by rw [beq_eq_false_iff_ne]; omega
  cases b with
  | false =>
    obtain rfl : sp = [] := by rw [hsp]; rfl
    clear hsp
    go_enter Tryd.func26, Tryd.ntmps26
    go_wp2_with fail
    generalize w.alloc (.cells #[.int .i64 n, .int .i64 ra, .string TS] 29) = W1 at *
    go_region
    go_wp2_with fail
    have HBW1 := HBW
    obtain ⟨q8, hq8⟩ : ∃ v, W1.cell? ⟨p, 8, none⟩ = some v := ⟨_, c8⟩
    clear c8
    go_region
    obtain ⟨hon4, hb4, hr4, ho4, hT4, hou4, hs4⟩ := after4 r HRN.out ((Only.of_below HBW1.out).mono (fun k hk h => absurd h (by omega))) HB1.out HR1.out HO1.out HT1.out hp (Own.nil_ W1 _ _) 2 (((W1.setCell ⟨p, 8, none⟩ (.bool true)).setCell ⟨p, 7, none⟩ (.int .i64 n)).drew.drew) rfl
    generalize ((W1.setCell ⟨p, 8, none⟩ (.bool true)).setCell ⟨p, 7, none⟩ (.int .i64 n)).drew.drew = W4 at *
    have y0 := hr4.drew.cell 0
    have y2 := hr4.drew.cell 2
    simp only [List.getElem?_toArray, List.getElem?_cons_succ, List.getElem?_cons_zero] at y0 y2
    have hg4 : w.heap.size < W4.drew.heap.size := hr4.lt
    have HT4 := Lib.hid hT4.drew
    have HON4 := Lib.hid hon4.drew
    have HB4 := Lib.hid hb4.drew
    have HO4 := Lib.hid ho4.drew
    have HOU4 := Lib.hid hou4.drew
    clear hT4 hon4 hb4 ho4 hou4 hr4
    go_wp2_with fail
    refine region_tail 10 (by kernel_rfl) (by kernel_rfl) (fun W W' => Below W.heap.size W W')
      [.val (.slice none 0 0),
       .val (.pointer (some ⟨w.heap.size, 0, none⟩)),
       .val (.int .i64 n),
       .val (.string NS),
       .val (.string SG),
       .val (.string (NS ++ SG)),
       .val (.pointer (some ⟨w.heap.size, 2, none⟩)),
       .val (.string TS),
       .val (.string ((NS ++ SG) ++ TS)),
       ⟨fun v W => ∃ g, v = .slice (some ⟨g, 0, none⟩) 1 1 ∧ Blk W g 9 #[.string (NS ++ SG ++ TS)], fun _ _ _ ⟨g, e, h⟩ hR => ⟨g, e, h.below hR h.lt⟩⟩]
      (fun W => Below.refl _ W) (fun _ _ _ h k => below_trans h k) (by kernel_rfl) ?_ ?_
    · refine ⟨?_, ?_, ?_, ?_, ?_, ?_, ?_, ?_, ?_, ?_, trivial⟩
      · intro ra RW hR hk hd K hK
        obtain ⟨e7, g7⟩ := hk 7 (.slice none 0 0) (by kernel_rfl) rfl
        clear hk hd
        have HR := Lib.hid hR
        clear hR
        go_simp
        exact hK _ _ (Below.refl _ _) rfl
      · intro ra RW hR hk hd K hK
        obtain ⟨e4, g4⟩ := hk 4 (.pointer (some ⟨w.heap.size, 0, none⟩)) (by kernel_rfl) rfl
        clear hk hd
        have HR := Lib.hid hR
        clear hR
        go_simp
        exact hK _ _ (Below.refl _ _) rfl
      · intro ra RW hR hk hd K hK
        obtain ⟨v34, e34, g34, f34⟩ := hd 1 34 (by kernel_rfl) rfl
        have f34 : v34 = .pointer (some ⟨w.heap.size, 0, none⟩) := f34
        subst f34
        clear hk hd
        have HR := Lib.hid hR
        clear hR
        have dd0 := (HR.out.cell (p := ⟨w.heap.size, 0, none⟩) hg4).trans y0
        go_simp
        exact hK _ _ (Below.refl _ _) rfl
      · intro ra RW hR hk hd K hK
        obtain ⟨v35, e35, g35, f35⟩ := hd 2 35 (by kernel_rfl) rfl
        have f35 : v35 = .int .i64 n := f35
        subst f35
        clear hk hd
        have HR := Lib.hid hR
        clear hR
        go_simp
        refine (HNB.out RW (HT4.out.below' HR.out)).mono ?_
        rintro e w2 ⟨rfl, hb2⟩
        exact hK _ _ hb2 rfl
      · intro ra RW hR hk hd K hK
        obtain ⟨e2, g2⟩ := hk 2 (.string SG) (by kernel_rfl) rfl
        clear hk hd
        have HR := Lib.hid hR
        clear hR
        go_simp
        exact hK _ _ (Below.refl _ _) rfl
      · intro ra RW hR hk hd K hK
        obtain ⟨v36, e36, g36, f36⟩ := hd 3 36 (by kernel_rfl) rfl
        have f36 : v36 = .string NS := f36
        subst f36
        obtain ⟨v37, e37, g37, f37⟩ := hd 4 37 (by kernel_rfl) rfl
        have f37 : v37 = .string SG := f37
        subst f37
        clear hk hd
        have HR := Lib.hid hR
        clear hR
        go_simp
        rw [if_neg (by omega)]
        go_simp
        exact hK _ _ (Below.refl _ _) rfl
      · intro ra RW hR hk hd K hK
        obtain ⟨e4, g4⟩ := hk 4 (.pointer (some ⟨w.heap.size, 0, none⟩)) (by kernel_rfl) rfl
        clear hk hd
        have HR := Lib.hid hR
        clear hR
        go_simp
        exact hK _ _ (Below.refl _ _) rfl
      · intro ra RW hR hk hd K hK
        obtain ⟨v39, e39, g39, f39⟩ := hd 6 39 (by kernel_rfl) rfl
        have f39 : v39 = .pointer (some ⟨w.heap.size, 2, none⟩) := f39
        subst f39
        clear hk hd
        have HR := Lib.hid hR
        clear hR
        have dd0 := (HR.out.cell (p := ⟨w.heap.size, 2, none⟩) hg4).trans y2
        go_simp
        exact hK _ _ (Below.refl _ _) rfl
      · intro ra RW hR hk hd K hK
        obtain ⟨v38, e38, g38, f38⟩ := hd 5 38 (by kernel_rfl) rfl
        have f38 : v38 = .string (NS ++ SG) := f38
        subst f38
        obtain ⟨v40, e40, g40, f40⟩ := hd 7 40 (by kernel_rfl) rfl
        have f40 : v40 = .string TS := f40
        subst f40
        clear hk hd
        have HR := Lib.hid hR
        clear hR
        go_simp
        rw [if_neg (by omega)]
        go_simp
        exact hK _ _ (Below.refl _ _) rfl
      · intro ra RW hR hk hd K hK
        obtain ⟨v41, e41, g41, f41⟩ := hd 8 41 (by kernel_rfl) rfl
        have f41 : v41 = .string ((NS ++ SG) ++ TS) := f41
        subst f41
        clear hk hd
        have HR := Lib.hid hR
        clear hR
        go_simp
        exact hK _ _ (below_al (Below.refl _ _) _) ⟨_, rfl, Blk.new _ _ _⟩
    intro vs RW hR hF
    have q0 : vs 0 = .slice none 0 0 := hF 0 (by decide)
    have q1 : vs 1 = .pointer (some ⟨w.heap.size, 0, none⟩) := hF 1 (by decide)
    have q2 : vs 2 = .int .i64 n := hF 2 (by decide)
    have q3 : vs 3 = .string NS := hF 3 (by decide)
    have q4 : vs 4 = .string SG := hF 4 (by decide)
    have q5 : vs 5 = .string (NS ++ SG) := hF 5 (by decide)
    have q6 : vs 6 = .pointer (some ⟨w.heap.size, 2, none⟩) := hF 6 (by decide)
    have q7 : vs 7 = .string TS := hF 7 (by decide)
    have q8 : vs 8 = .string ((NS ++ SG) ++ TS) := hF 8 (by decide)
    have F42 := Lib.hid (hF 9 (by decide))
    simp only [List.take_succ_cons, List.take_zero, List.drop_succ_cons, List.drop_zero, setAll, List.setIfInBounds_toArray, List.set_cons_zero, List.set_cons_succ, q0, q1, q2, q3, q4, q5, q6, q7, q8]
    clear hF q0 q1 q2 q3 q4 q5 q6 q7 q8
    generalize vs 9 = v42 at *
    clear vs
    have HRW := Lib.hid hR
    clear hR
    obtain ⟨g42, rfl, hnw⟩ := F42.out
    have HNW := Lib.hid hnw
    clear hnw F42
    have HOU5 := Lib.hid (HOU4.out.below HRW.out (fun k hk => HOU4.out.lt hk))
    go_wp2_with (at_builtin; refine wpList_append_mine _ rfl (.tmp 33) (.tmp 42) _ rfl 9 i0 _ 1 16 Tryd.underlying34 hi0 hz0 hz1 hz2 rfl (by omega) (.slice none 0 0) 0 _ rfl (by exact HOU5.out) ⟨g42, 0, none⟩ 1 1 [.string (NS ++ SG ++ TS)] rfl rfl (by exact news_blk HNW.out) (by simp [Value.oneCell']) (by omega) (by simp only [maxLen]; omega) (by omega) _ rfl ?_; intro g6 o6 c6 w6 hown6 hgrow6 hat6)
    go_ret
    refine ⟨_, rfl, ?_, ?_, ?_, ?_⟩
    · have hown7 : Own w6 9 1 (.slice (some ⟨g6, o6, none⟩) (0 + 1) c6) ([] ++ [ln]).length (lns ([] ++ [ln])) := by
        rw [show lns ([] ++ [ln]) = [] ++ [.string (NS ++ SG ++ TS)] by rw [HLV.out]; rfl]
        exact hown6
      exact hown7
    · intro k hk
      obtain rfl : g6 = k := Option.some.inj hk
      have := HRW.out.size
      have := HON4.out.size
      exact hat6.elim (fun h => by simp [Value.ownBlock] at h) (fun h => by rw [h]; simp; omega)
    · exact ⟨by rw [← HTRE.out]; exact (HB4.out.below HRW.out HB4.out.lt).grown hgrow6 (fun e => by simp [Value.ownBlock] at e), by rw [← HTRE.out]; exact (HO4.out.below HRW.out (fun k hk => HO4.out.lt hk)).grown hgrow6 (fun k hk e => by simp [Value.ownBlock] at e)⟩
    · exact ((HON4.out.trans (Only.of_below HRW.out) (fun k hk h => by have h : W4.drew.heap.size ≤ k := h; have := HON4.out.size; omega))).grown hgrow6 (fun k e hk => by simp [Value.ownBlock] at e)
  | true =>
    cases hne : (n != wrap64 (l + 1)) with
    | true =>
      obtain rfl : sp = [[45, 45]] := by rw [hsp, hne]; rfl
      clear hsp
      go_enter Tryd.func26, Tryd.ntmps26
      go_wp2_with fail
      generalize w.alloc (.cells #[.int .i64 n, .int .i64 ra, .string TS] 29) = W1 at *
      go_region
      clear hne
      go_wp2_with (at_builtin; refine wpList_append_mine _ rfl (.tmp 22) (.tmp 23) _ rfl 9 i0 _ 1 16 Tryd.underlying34 hi0 hz0 hz1 hz2 rfl (by omega) (.slice none 0 0) 0 [] rfl (by exact Own.nil_ _ _ _) _ 1 1 [_] rfl rfl (by exact news_push rfl rfl) (by simp [Value.oneCell']) (by omega) (by simp only [maxLen]; omega) (by omega) _ rfl ?_; intro g2 o2 c2 w2 hown2 hgrow2 hat2; have hb2 : Below W1.heap.size W1 w2 := Below.grown (below_al (below_drewN (Below.refl _ _) 1) _) hgrow2 (by simp) (by simp [Value.ownBlock]); have HOU := Lib.hid hown2; have hok2 : W1.heap.size ≤ g2 := hat2.elim (fun h => by simp [Value.ownBlock] at h) (fun h => by rw [h]; simp); have HB2 := Lib.hid (HB1.out.below hb2 (by have := HSZ.out; omega)); have HR2 := Lib.hid (HR1.out.below hb2 (by have := HSZ.out; omega)); have HO2 := Lib.hid (HO1.out.below hb2 (fun k hk => HO1.out.lt hk)); have HT2 := Lib.hid (HT1.out.below' hb2); have HBW2 := Lib.hid (HBW.out.trans (hb2.mono HBW.out.size)); obtain ⟨d8, d7, z8b, z7b⟩ := hc.out _ HB2.out; have u0 := HR2.out.cell 0; simp only [List.getElem?_toArray, List.getElem?_cons_zero] at u0; clear hown2 hgrow2 hat2 hb2)
      go_region
      obtain ⟨hon4, hb4, hr4, ho4, hT4, hou4, hs4⟩ := after4 r HRN.out ((Only.of_below HBW2.out).mono (fun k hk h => absurd h (by omega))) HB2.out HR2.out HO2.out HT2.out hp HOU.out 1 (((w2.setCell ⟨p, 8, none⟩ (.bool true)).setCell ⟨p, 7, none⟩ (.int .i64 n)).drew) rfl
      generalize ((w2.setCell ⟨p, 8, none⟩ (.bool true)).setCell ⟨p, 7, none⟩ (.int .i64 n)).drew = W4 at *
      have y0 := hr4.drew.cell 0
      have y2 := hr4.drew.cell 2
      simp only [List.getElem?_toArray, List.getElem?_cons_succ, List.getElem?_cons_zero] at y0 y2
      have hg4 : w.heap.size < W4.drew.heap.size := hr4.lt
      have HT4 := Lib.hid hT4.drew
      have HON4 := Lib.hid hon4.drew
      have HB4 := Lib.hid hb4.drew
      have HO4 := Lib.hid ho4.drew
      have HOU4 := Lib.hid hou4.drew
      clear hT4 hon4 hb4 ho4 hou4 hr4
      go_wp2_with fail
      refine region_tail 10 (by kernel_rfl) (by kernel_rfl) (fun W W' => Below W.heap.size W W')
        [.val (.slice (some ⟨g2, o2, none⟩) (0 + 1) c2),
         .val (.pointer (some ⟨w.heap.size, 0, none⟩)),
         .val (.int .i64 n),
         .val (.string NS),
         .val (.string SG),
         .val (.string (NS ++ SG)),
         .val (.pointer (some ⟨w.heap.size, 2, none⟩)),
         .val (.string TS),
         .val (.string ((NS ++ SG) ++ TS)),
         ⟨fun v W => ∃ g, v = .slice (some ⟨g, 0, none⟩) 1 1 ∧ Blk W g 9 #[.string (NS ++ SG ++ TS)], fun _ _ _ ⟨g, e, h⟩ hR => ⟨g, e, h.below hR h.lt⟩⟩]
        (fun W => Below.refl _ W) (fun _ _ _ h k => below_trans h k) (by kernel_rfl) ?_ ?_
      · refine ⟨?_, ?_, ?_, ?_, ?_, ?_, ?_, ?_, ?_, ?_, trivial⟩
        · intro ra RW hR hk hd K hK
          obtain ⟨e7, g7⟩ := hk 7 (.slice (some ⟨g2, o2, none⟩) (0 + 1) c2) (by kernel_rfl) rfl
          clear hk hd
          have HR := Lib.hid hR
          clear hR
          go_simp
          exact hK _ _ (Below.refl _ _) rfl
        · intro ra RW hR hk hd K hK
          obtain ⟨e4, g4⟩ := hk 4 (.pointer (some ⟨w.heap.size, 0, none⟩)) (by kernel_rfl) rfl
          clear hk hd
          have HR := Lib.hid hR
          clear hR
          go_simp
          exact hK _ _ (Below.refl _ _) rfl
        · intro ra RW hR hk hd K hK
          obtain ⟨v34, e34, g34, f34⟩ := hd 1 34 (by kernel_rfl) rfl
          have f34 : v34 = .pointer (some ⟨w.heap.size, 0, none⟩) := f34
          subst f34
          clear hk hd
          have HR := Lib.hid hR
          clear hR
          have dd0 := (HR.out.cell (p := ⟨w.heap.size, 0, none⟩) hg4).trans y0
          go_simp
          exact hK _ _ (Below.refl _ _) rfl
        · intro ra RW hR hk hd K hK
          obtain ⟨v35, e35, g35, f35⟩ := hd 2 35 (by kernel_rfl) rfl
          have f35 : v35 = .int .i64 n := f35
          subst f35
          clear hk hd
          have HR := Lib.hid hR
          clear hR
          go_simp
          refine (HNB.out RW (HT4.out.below' HR.out)).mono ?_
          rintro e w2 ⟨rfl, hb2⟩
          exact hK _ _ hb2 rfl
        · intro ra RW hR hk hd K hK
          obtain ⟨e2, g2⟩ := hk 2 (.string SG) (by kernel_rfl) rfl
          clear hk hd
          have HR := Lib.hid hR
          clear hR
          go_simp
          exact hK _ _ (Below.refl _ _) rfl
        · intro ra RW hR hk hd K hK
          obtain ⟨v36, e36, g36, f36⟩ := hd 3 36 (by kernel_rfl) rfl
          have f36 : v36 = .string NS := f36
          subst f36
          obtain ⟨v37, e37, g37, f37⟩ := hd 4 37 (by kernel_rfl) rfl
          have f37 : v37 = .string SG := f37
          subst f37
          clear hk hd
          have HR := Lib.hid hR
          clear hR
          go_simp
          rw [if_neg (by omega)]
          go_simp
          exact hK _ _ (Below.refl _ _) rfl
        · intro ra RW hR hk hd K hK
          obtain ⟨e4, g4⟩ := hk 4 (.pointer (some ⟨w.heap.size, 0, none⟩)) (by kernel_rfl) rfl
          clear hk hd
          have HR := Lib.hid hR
          clear hR
          go_simp
          exact hK _ _ (Below.refl _ _) rfl
        · intro ra RW hR hk hd K hK
          obtain ⟨v39, e39, g39, f39⟩ := hd 6 39 (by kernel_rfl) rfl
          have f39 : v39 = .pointer (some ⟨w.heap.size, 2, none⟩) := f39
          subst f39
          clear hk hd
          have HR := Lib.hid hR
          clear hR
          have dd0 := (HR.out.cell (p := ⟨w.heap.size, 2, none⟩) hg4).trans y2
          go_simp
          exact hK _ _ (Below.refl _ _) rfl
        · intro ra RW hR hk hd K hK
          obtain ⟨v38, e38, g38, f38⟩ := hd 5 38 (by kernel_rfl) rfl
          have f38 : v38 = .string (NS ++ SG) := f38
          subst f38
          obtain ⟨v40, e40, g40, f40⟩ := hd 7 40 (by kernel_rfl) rfl
          have f40 : v40 = .string TS := f40
          subst f40
          clear hk hd
          have HR := Lib.hid hR
          clear hR
          go_simp
          rw [if_neg (by omega)]
          go_simp
          exact hK _ _ (Below.refl _ _) rfl
        · intro ra RW hR hk hd K hK
          obtain ⟨v41, e41, g41, f41⟩ := hd 8 41 (by kernel_rfl) rfl
          have f41 : v41 = .string ((NS ++ SG) ++ TS) := f41
          subst f41
          clear hk hd
          have HR := Lib.hid hR
          clear hR
          go_simp
          exact hK _ _ (below_al (Below.refl _ _) _) ⟨_, rfl, Blk.new _ _ _⟩
      intro vs RW hR hF
      have q0 : vs 0 = .slice (some ⟨g2, o2, none⟩) (0 + 1) c2 := hF 0 (by decide)
      have q1 : vs 1 = .pointer (some ⟨w.heap.size, 0, none⟩) := hF 1 (by decide)
      have q2 : vs 2 = .int .i64 n := hF 2 (by decide)
      have q3 : vs 3 = .string NS := hF 3 (by decide)
      have q4 : vs 4 = .string SG := hF 4 (by decide)
      have q5 : vs 5 = .string (NS ++ SG) := hF 5 (by decide)
      have q6 : vs 6 = .pointer (some ⟨w.heap.size, 2, none⟩) := hF 6 (by decide)
      have q7 : vs 7 = .string TS := hF 7 (by decide)
      have q8 : vs 8 = .string ((NS ++ SG) ++ TS) := hF 8 (by decide)
      have F42 := Lib.hid (hF 9 (by decide))
      simp only [List.take_succ_cons, List.take_zero, List.drop_succ_cons, List.drop_zero, setAll, List.setIfInBounds_toArray, List.set_cons_zero, List.set_cons_succ, q0, q1, q2, q3, q4, q5, q6, q7, q8]
      clear hF q0 q1 q2 q3 q4 q5 q6 q7 q8
      generalize vs 9 = v42 at *
      clear vs
      have HRW := Lib.hid hR
      clear hR
      obtain ⟨g42, rfl, hnw⟩ := F42.out
      have HNW := Lib.hid hnw
      clear hnw F42
      have HOU5 := Lib.hid (HOU4.out.below HRW.out (fun k hk => HOU4.out.lt hk))
      go_wp2_with (at_builtin; refine wpList_append_mine _ rfl (.tmp 33) (.tmp 42) _ rfl 9 i0 _ 1 16 Tryd.underlying34 hi0 hz0 hz1 hz2 rfl (by omega) (.slice (some ⟨g2, o2, none⟩) (0 + 1) c2) (0 + 1) _ rfl (by exact HOU5.out) ⟨g42, 0, none⟩ 1 1 [.string (NS ++ SG ++ TS)] rfl rfl (by exact news_blk HNW.out) (by simp [Value.oneCell']) (by omega) (by simp only [maxLen]; omega) (by omega) _ rfl ?_; intro g6 o6 c6 w6 hown6 hgrow6 hat6)
      go_ret
      refine ⟨_, rfl, ?_, ?_, ?_, ?_⟩
      · have hown7 : Own w6 9 1 (.slice (some ⟨g6, o6, none⟩) ((0 + 1) + 1) c6) ([[45, 45]] ++ [ln]).length (lns ([[45, 45]] ++ [ln])) := by
          rw [show lns ([[45, 45]] ++ [ln]) = [.string ⟨#[45, 45]⟩] ++ [.string (NS ++ SG ++ TS)] by rw [HLV.out]; rfl]
          exact hown6
        exact hown7
      · intro k hk
        obtain rfl : g6 = k := Option.some.inj hk
        have := HRW.out.size
        have := HON4.out.size
        exact hat6.elim (fun h => by simp [Value.ownBlock] at h; have := HBW.out.size; omega) (fun h => by rw [h]; simp; omega)
      · exact ⟨by rw [← HTRE.out]; exact (HB4.out.below HRW.out HB4.out.lt).grown hgrow6 (fun e => by simp [Value.ownBlock] at e; have := HSZ.out; omega), by rw [← HTRE.out]; exact (HO4.out.below HRW.out (fun k hk => HO4.out.lt hk)).grown hgrow6 (fun k hk e => by have := HO.out.lt hk; simp [Value.ownBlock] at e; have := HSZ.out; omega)⟩
      · exact ((HON4.out.trans (Only.of_below HRW.out) (fun k hk h => by have h : W4.drew.heap.size ≤ k := h; have := HON4.out.size; omega))).grown hgrow6 (fun k e hk => by simp [Value.ownBlock] at e; have := HSZ.out; omega)
    | false =>
      obtain rfl : sp = [] := by rw [hsp, hne]; rfl
      clear hsp
      go_enter Tryd.func26, Tryd.ntmps26
      go_wp2_with fail
      generalize w.alloc (.cells #[.int .i64 n, .int .i64 ra, .string TS] 29) = W1 at *
      go_region
      clear hne
      go_wp2_with fail
      have HBW1 := HBW
      obtain ⟨q8, hq8⟩ : ∃ v, W1.cell? ⟨p, 8, none⟩ = some v := ⟨_, c8⟩
      clear c8
      go_region
      obtain ⟨hon4, hb4, hr4, ho4, hT4, hou4, hs4⟩ := after4 r HRN.out ((Only.of_below HBW1.out).mono (fun k hk h => absurd h (by omega))) HB1.out HR1.out HO1.out HT1.out hp (Own.nil_ W1 _ _) 2 (((W1.setCell ⟨p, 8, none⟩ (.bool true)).setCell ⟨p, 7, none⟩ (.int .i64 n)).drew.drew) rfl
      generalize ((W1.setCell ⟨p, 8, none⟩ (.bool true)).setCell ⟨p, 7, none⟩ (.int .i64 n)).drew.drew = W4 at *
      have y0 := hr4.drew.cell 0
      have y2 := hr4.drew.cell 2
      simp only [List.getElem?_toArray, List.getElem?_cons_succ, List.getElem?_cons_zero] at y0 y2
      have hg4 : w.heap.size < W4.drew.heap.size := hr4.lt
      have HT4 := Lib.hid hT4.drew
      have HON4 := Lib.hid hon4.drew
      have HB4 := Lib.hid hb4.drew
      have HO4 := Lib.hid ho4.drew
      have HOU4 := Lib.hid hou4.drew
      clear hT4 hon4 hb4 ho4 hou4 hr4
      go_wp2_with fail
      refine region_tail 10 (by kernel_rfl) (by kernel_rfl) (fun W W' => Below W.heap.size W W')
        [.val (.slice none 0 0),
         .val (.pointer (some ⟨w.heap.size, 0, none⟩)),
         .val (.int .i64 n),
         .val (.string NS),
         .val (.string SG),
         .val (.string (NS ++ SG)),
         .val (.pointer (some ⟨w.heap.size, 2, none⟩)),
         .val (.string TS),
         .val (.string ((NS ++ SG) ++ TS)),
         ⟨fun v W => ∃ g, v = .slice (some ⟨g, 0, none⟩) 1 1 ∧ Blk W g 9 #[.string (NS ++ SG ++ TS)], fun _ _ _ ⟨g, e, h⟩ hR => ⟨g, e, h.below hR h.lt⟩⟩]
        (fun W => Below.refl _ W) (fun _ _ _ h k => below_trans h k) (by kernel_rfl) ?_ ?_
      · refine ⟨?_, ?_, ?_, ?_, ?_, ?_, ?_, ?_, ?_, ?_, trivial⟩
        · intro ra RW hR hk hd K hK
          obtain ⟨e7, g7⟩ := hk 7 (.slice none 0 0) (by kernel_rfl) rfl
          clear hk hd
          have HR := Lib.hid hR
          clear hR
          go_simp
          exact hK _ _ (Below.refl _ _) rfl
        · intro ra RW hR hk hd K hK
          obtain ⟨e4, g4⟩ := hk 4 (.pointer (some ⟨w.heap.size, 0, none⟩)) (by kernel_rfl) rfl
          clear hk hd
          have HR := Lib.hid hR
          clear hR
          go_simp
          exact hK _ _ (Below.refl _ _) rfl
        · intro ra RW hR hk hd K hK
          obtain ⟨v34, e34, g34, f34⟩ := hd 1 34 (by kernel_rfl) rfl
          have f34 : v34 = .pointer (some ⟨w.heap.size, 0, none⟩) := f34
          subst f34
          clear hk hd
          have HR := Lib.hid hR
          clear hR
          have dd0 := (HR.out.cell (p := ⟨w.heap.size, 0, none⟩) hg4).trans y0
          go_simp
          exact hK _ _ (Below.refl _ _) rfl
        · intro ra RW hR hk hd K hK
          obtain ⟨v35, e35, g35, f35⟩ := hd 2 35 (by kernel_rfl) rfl
          have f35 : v35 = .int .i64 n := f35
          subst f35
          clear hk hd
          have HR := Lib.hid hR
          clear hR
          go_simp
          refine (HNB.out RW (HT4.out.below' HR.out)).mono ?_
          rintro e w2 ⟨rfl, hb2⟩
          exact hK _ _ hb2 rfl
        · intro ra RW hR hk hd K hK
          obtain ⟨e2, g2⟩ := hk 2 (.string SG) (by kernel_rfl) rfl
          clear hk hd
          have HR := Lib.hid hR
          clear hR
          go_simp
          exact hK _ _ (Below.refl _ _) rfl
        · intro ra RW hR hk hd K hK
          obtain ⟨v36, e36, g36, f36⟩ := hd 3 36 (by kernel_rfl) rfl
          have f36 : v36 = .string NS := f36
          subst f36
          obtain ⟨v37, e37, g37, f37⟩ := hd 4 37 (by kernel_rfl) rfl
          have f37 : v37 = .string SG := f37
          subst f37
          clear hk hd
          have HR := Lib.hid hR
          clear hR
          go_simp
          rw [if_neg (by omega)]
          go_simp
          exact hK _ _ (Below.refl _ _) rfl
        · intro ra RW hR hk hd K hK
          obtain ⟨e4, g4⟩ := hk 4 (.pointer (some ⟨w.heap.size, 0, none⟩)) (by kernel_rfl) rfl
          clear hk hd
          have HR := Lib.hid hR
          clear hR
          go_simp
          exact hK _ _ (Below.refl _ _) rfl
        · intro ra RW hR hk hd K hK
          obtain ⟨v39, e39, g39, f39⟩ := hd 6 39 (by kernel_rfl) rfl
          have f39 : v39 = .pointer (some ⟨w.heap.size, 2, none⟩) := f39
          subst f39
          clear hk hd
          have HR := Lib.hid hR
          clear hR
          have dd0 := (HR.out.cell (p := ⟨w.heap.size, 2, none⟩) hg4).trans y2
          go_simp
          exact hK _ _ (Below.refl _ _) rfl
        · intro ra RW hR hk hd K hK
          obtain ⟨v38, e38, g38, f38⟩ := hd 5 38 (by kernel_rfl) rfl
          have f38 : v38 = .string (NS ++ SG) := f38
          subst f38
          obtain ⟨v40, e40, g40, f40⟩ := hd 7 40 (by kernel_rfl) rfl
          have f40 : v40 = .string TS := f40
          subst f40
          clear hk hd
          have HR := Lib.hid hR
          clear hR
          go_simp
          rw [if_neg (by omega)]
          go_simp
          exact hK _ _ (Below.refl _ _) rfl
        · intro ra RW hR hk hd K hK
          obtain ⟨v41, e41, g41, f41⟩ := hd 8 41 (by kernel_rfl) rfl
          have f41 : v41 = .string ((NS ++ SG) ++ TS) := f41
          subst f41
          clear hk hd
          have HR := Lib.hid hR
          clear hR
          go_simp
          exact hK _ _ (below_al (Below.refl _ _) _) ⟨_, rfl, Blk.new _ _ _⟩
      intro vs RW hR hF
      have q0 : vs 0 = .slice none 0 0 := hF 0 (by decide)
      have q1 : vs 1 = .pointer (some ⟨w.heap.size, 0, none⟩) := hF 1 (by decide)
      have q2 : vs 2 = .int .i64 n := hF 2 (by decide)
      have q3 : vs 3 = .string NS := hF 3 (by decide)
      have q4 : vs 4 = .string SG := hF 4 (by decide)
      have q5 : vs 5 = .string (NS ++ SG) := hF 5 (by decide)
      have q6 : vs 6 = .pointer (some ⟨w.heap.size, 2, none⟩) := hF 6 (by decide)
      have q7 : vs 7 = .string TS := hF 7 (by decide)
      have q8 : vs 8 = .string ((NS ++ SG) ++ TS) := hF 8 (by decide)
      have F42 := Lib.hid (hF 9 (by decide))
      simp only [List.take_succ_cons, List.take_zero, List.drop_succ_cons, List.drop_zero, setAll, List.setIfInBounds_toArray, List.set_cons_zero, List.set_cons_succ, q0, q1, q2, q3, q4, q5, q6, q7, q8]
      clear hF q0 q1 q2 q3 q4 q5 q6 q7 q8
      generalize vs 9 = v42 at *
      clear vs
      have HRW := Lib.hid hR
      clear hR
      obtain ⟨g42, rfl, hnw⟩ := F42.out
      have HNW := Lib.hid hnw
      clear hnw F42
      have HOU5 := Lib.hid (HOU4.out.below HRW.out (fun k hk => HOU4.out.lt hk))
      go_wp2_with (at_builtin; refine wpList_append_mine _ rfl (.tmp 33) (.tmp 42) _ rfl 9 i0 _ 1 16 Tryd.underlying34 hi0 hz0 hz1 hz2 rfl (by omega) (.slice none 0 0) 0 _ rfl (by exact HOU5.out) ⟨g42, 0, none⟩ 1 1 [.string (NS ++ SG ++ TS)] rfl rfl (by exact news_blk HNW.out) (by simp [Value.oneCell']) (by omega) (by simp only [maxLen]; omega) (by omega) _ rfl ?_; intro g6 o6 c6 w6 hown6 hgrow6 hat6)
      go_ret
      refine ⟨_, rfl, ?_, ?_, ?_, ?_⟩
      · have hown7 : Own w6 9 1 (.slice (some ⟨g6, o6, none⟩) (0 + 1) c6) ([] ++ [ln]).length (lns ([] ++ [ln])) := by
          rw [show lns ([] ++ [ln]) = [] ++ [.string (NS ++ SG ++ TS)] by rw [HLV.out]; rfl]
          exact hown6
        exact hown7
      · intro k hk
        obtain rfl : g6 = k := Option.some.inj hk
        have := HRW.out.size
        have := HON4.out.size
        exact hat6.elim (fun h => by simp [Value.ownBlock] at h) (fun h => by rw [h]; simp; omega)
      · exact ⟨by rw [← HTRE.out]; exact (HB4.out.below HRW.out HB4.out.lt).grown hgrow6 (fun e => by simp [Value.ownBlock] at e), by rw [← HTRE.out]; exact (HO4.out.below HRW.out (fun k hk => HO4.out.lt hk)).grown hgrow6 (fun k hk e => by simp [Value.ownBlock] at e)⟩
      · exact ((HON4.out.trans (Only.of_below HRW.out) (fun k hk h => by have h : W4.drew.heap.size ≤ k := h; have := HON4.out.size; omega))).grown hgrow6 (fun k e hk => by simp [Value.ownBlock] at e)
end Go.Proofs.YtbgmdjceecbbhaaDoor
