/-
  The walk of reedbedlaw15.TreeActs: it returns true; no condition beyond those that each theorem states.
-/
import Derived.Test.YtddklpphcfgooaaRefT4
import Derived.Test.YtddklpphcfgooaaStays1
namespace Go.Proofs.Ytddklpphcfgooaa
open Go.RowKit Go.Rb

theorem nV_map (l : List Nat) : l.map nV = (l.map (fun k : Nat => (k : Int))).map iV := by simp [nV, iV]

set_option maxRecDepth 20000 in
set_option maxHeartbeats 16000000 in
theorem acts_small (acts : List ActD) (A : Option Addr) (m c : Nat) (w : World) (hr : ActsAt w w.heap.size A m acts) (hm : m ≤ 60) :
    Calls Try.prog 5 #[.slice A m c] w fun e w' => e = .returned (.bool true) ∧ Below w.heap.size w w' := by
  have hA : Hid (∀ w, Calls Try.prog 7 #[] w fun e w' => e = .returned (.bool true) ∧ Below w.heap.size w w') := awake_any
  have HR := Lib.hid hr
  clear hr
  have i1 : ¬ (60 : Int) < (m : Int) := by omega
  have hN : Hid (∀ W, w.heap.size ≤ W.heap.size → Calls Try.prog 8 #[] W fun e w' => ∃ t S, e = .returned (.pointer (some ⟨t, 0, none⟩)) ∧ Below W.heap.size W w' ∧ Rep w' S t rootS ∧ ∀ q, S q → w.heap.size ≤ q) := fun W hW => new2 (B := w.heap.size) W hW
  have hRN : Hid (∀ W t S, w.heap.size ≤ W.heap.size → Rep W S t rootS → (∀ q, S q → w.heap.size ≤ q) → Calls Try.prog 14 #[] W fun e w' => ∃ r, e = .returned (.pointer (some ⟨r, 0, none⟩)) ∧ Below W.heap.size W w' ∧ TR w.heap.size NoT w' t r rootS) := fun W t S h1 h2 h3 => rnew2 (B := w.heap.size) h1 h2 h3
  go_enter Try.func5, Try.ntmps5
  go_wp2_with (first
    | (go_at_call 7; refine (hA.out _).mono ?_; rintro e1 w1 ⟨rfl, hb1⟩; have HB1 := Lib.hid hb1; clear hb1)
    | (go_at_call 8; refine (hN.out _ HB1.out.size).mono ?_; rintro e2 w2 ⟨t, S, rfl, hb2, hr2, hs2⟩; have HB2 := Lib.hid (below_trans HB1.out hb2); have HR2 := Lib.hid hr2; have HS2 := Lib.hid hs2; clear hb2 hr2 hs2)
    | (go_at_call 14; refine (hRN.out _ _ _ HB2.out.size HR2.out HS2.out).mono ?_; rintro e3 w3 ⟨r, rfl, hb3, hi3⟩; have HB3 := Lib.hid (below_trans HB2.out hb3); have HI3 := Lib.hid hi3; clear hb3 hi3))
  go_loopw [5] (fun i wr => ∃ (j : Nat) (s : TS), j ≤ m ∧ i = .int .i64 j ∧ Below w.heap.size w wr ∧ TR w.heap.size NoT wr t r s) (fun i _ => m - (intOf i).toNat)
  case atStart => exact ⟨0, rootS, by omega, rfl, HB3.out, HI3.out⟩
  case round =>
    obtain ⟨j, s, hj, rfl, hbw, hin⟩ := hrel
    by_cases hlt : j < m
    · have i5 : (j : Int) < (m : Int) := by omega
      obtain ⟨g, o, x, rfl, hxj, hat⟩ := HR.out.2 j hlt
      obtain ⟨y0, y1, y2, -⟩ := hat.below hbw
      clear hat hxj
      obtain ⟨xk, xi, xc⟩ := x
      simp only at y0 y1 y2
      have hXx : TR w.heap.size (fun k => k = wr.heap.size) (wr.alloc (.cells #[.int .i64 xk, .int .i64 xi, .int .i64 xc] 40)) t r s :=
        ⟨hin.1, hin.2.frame (U := fun k => wr.heap.size ≤ k) ((Only.refl _ wr).alloc _) (fun k hk => .inr hk) (fun k hk => ⟨.inr (by omega), by subst hk; simp⟩)⟩
      have HIN := Lib.hid hXx
      have HA5 : Hid (Blk (wr.alloc (.cells #[.int .i64 xk, .int .i64 xi, .int .i64 xc] 40)) wr.heap.size 40 #[.int .i64 xk, .int .i64 xi, .int .i64 xc]) := Blk.new wr _ _
      have HB5 := Lib.hid (below_al hbw (.cells #[.int .i64 xk, .int .i64 xi, .int .i64 xc] 40))
      have hsn := hin.nn
      clear hin hbw hXx HB1 HB2 HB3 HI3 HR2 HS2
      by_cases hk : xk = 0
      · subst hk
        as_aux_lemma =>
          have hAd := add2 HIN.out xi
          have hRA : Hid (∀ W s' x y, Mid w.heap.size (fun k => k = wr.heap.size) W t r s' s → AddO s xi x y s' → Calls Try.prog 15 #[.pointer (some ⟨r, 0, none⟩), .int .i64 xi] W fun e w' => e = .returned (.tuple #[.int .i64 x, .int .i64 y]) ∧ Mid w.heap.size (fun k => k = wr.heap.size) w' t r s' s' ∧ Only (fun k => w.heap.size ≤ k ∧ ¬ k = wr.heap.size) W w') := fun W s' x y h ho => radd2 h HIN.out.1 ho
          unfold pp at hAd
          have HAd := Lib.hid hAd
          clear hAd
          go_wp2_with (first
            | (go_at_call 10; refine HAd.out.mono ?_; rintro e6 w6 ⟨s6, ⟨x6, y6, rfl, ho6⟩, hm6, hd6⟩; have HA6 := Lib.hid (HA5.out.only hd6 (fun h => h.2 rfl)); have HB6 := Lib.hid (HB5.out.trans (hd6.below HIN.out.2.1 (fun k hk => hk.1))); have HM6 := Lib.hid hm6; have HO6 := Lib.hid ho6; clear hd6 hm6 ho6; have a61 : w6.cell? ⟨wr.heap.size, 1, none⟩ = some (.int .i64 xi) := (by rw [HA6.out.cell]; rfl); have a62 : w6.cell? ⟨wr.heap.size, 2, none⟩ = some (.int .i64 xc) := (by rw [HA6.out.cell]; rfl))
            | (go_at_call 15; refine (hRA.out _ _ _ _ HM6.out HO6.out).mono ?_; rintro e7 w7 ⟨rfl, hm7, hd7⟩; have HA7 := Lib.hid (HA6.out.only hd7 (fun h => h.2 rfl)); have HB7 := Lib.hid (HB6.out.trans (hd7.below HM6.out.1 (fun k hk => hk.1))); have HM7 := Lib.hid hm7; clear hd7 hm7))
          have HI7 : Hid (TR w.heap.size (fun k => k = wr.heap.size) w7 t r s6) := ⟨HO6.out.tr HIN.out.1, HM7.out⟩
          have HWD : Hid (∀ W, Below w7.drew.heap.size w7.drew W → Below w7.heap.size w7 W) := fun W hW => ⟨hW.os, hW.tape, hW.output, hW.size, hW.block⟩
          have HTI : Hid (∀ W, Below w7.drew.heap.size w7.drew W → TR w.heap.size (fun k => k = wr.heap.size) W t r s6) := fun W hW => HI7.out.below (HWD.out W hW)
          obtain ⟨S2, uv, cv, hra⟩ := HI7.out.drep
          obtain ⟨Au, cu, rfl, -, -⟩ := hra.uo.len_
          have hc0 := hra.c0
          have hrl := hra.lt r hra.st
          have hnn := HI7.out.nn
          have hSZ : Hid (∀ W, Below w7.drew.heap.size w7.drew W → Calls Try.prog 12 #[.pointer (some ⟨t, 0, none⟩)] W fun e w' => e = .returned (.int .i64 (s6.n : Int)) ∧ W = w') := fun W hW => by
            obtain ⟨S, hR⟩ := (HTI.out W hW).prep
            exact size_any W hR
          have hBE : Hid (∀ W, Below w7.drew.heap.size w7.drew W → Calls Try.prog 13 #[.pointer (some ⟨t, 0, none⟩), .int .i64 xi] W fun e w' => ∃ v, e = .returned v ∧ Below W.heap.size W w' ∧ Own w' 3 1 v (belowO s6 xi).length ((belowO s6 xi).map nV)) := fun W hW => by
            obtain ⟨S, hR⟩ := (HTI.out W hW).prep
            exact (below_any xi W hR (HTI.out W hW).1).mono fun e w' ⟨v, h1, h2, h3, _⟩ => ⟨v, h1, h2, h3⟩
          have hRB : Hid (∀ W, Below w7.drew.heap.size w7.drew W → Calls Try.prog 18 #[.pointer (some ⟨r, 0, none⟩), .int .i64 xi] W fun e w' => ∃ v, e = .returned v ∧ Below W.heap.size W w' ∧ Own w' 3 1 v (belowO s6 xi).length ((belowO s6 xi).map nV)) := fun W hW => by
            obtain ⟨S, hR⟩ := (HTI.out W hW).drep
            exact (rBelow_any xi W hR (HTI.out W hW).1 hnn).mono fun e w' ⟨v, h1, h2, h3, _⟩ => ⟨v, h1, h2, h3⟩
          have hbl : (belowO s6 xi).length ≤ 256 := by
            unfold belowO
            refine Nat.le_trans (List.length_filter_le _ _) ?_
            rw [List.length_range]
            exact hnn
          have hIN : Hid (∀ W v u, Own W 3 1 v (belowO s6 xi).length ((belowO s6 xi).map nV) → Own W 3 1 u (belowO s6 xi).length ((belowO s6 xi).map nV) → Calls Try.prog 17 #[v, u] W fun e w' => e = .returned (.bool true) ∧ ∃ q, w' = W.drewN q) := fun W v u h1 h2 => by
            rw [nV_map] at h1 h2
            obtain ⟨Av, cv, rfl, r1, -⟩ := Own.rdI h1
            obtain ⟨Av2, cv2, rfl, r2, -⟩ := Own.rdI h2
            refine (ints_any Av Av2 _ _ cv cv2 _ _ W _ _ r1 r2 (by omega) (by omega)).mono ?_
            rintro e w' ⟨rfl, hq⟩
            exact ⟨by simp, hq⟩
          have HFC : Hid (∀ W, Below w7.drew.heap.size w7.drew W → W.cell? ⟨r, 0, none⟩ = some (.slice Au s6.n cu) ∧ W.cell? ⟨wr.heap.size, 1, none⟩ = some (.int .i64 xi)) := fun W hW0 => by
            have hW := HWD.out W hW0
            exact ⟨(hW.cell (p := ⟨r, 0, none⟩) hrl).trans hc0, by have := HA7.out.below hW HA7.out.lt; rw [this.cell]; rfl⟩
          have HEND : Hid (∀ W, Below w7.drew.heap.size w7.drew W → TR w.heap.size NoT W t r s6 ∧ Below w.heap.size w W) := fun W hW0 => by
            have hW := HWD.out W hW0
            exact ⟨⟨(HTI.out W hW0).1, (HTI.out W hW0).2.frame (U := NoT) (Only.refl _ _) (fun _ h => h.elim) (fun _ h => h.elim)⟩, HB7.out.trans (hW.mono HB7.out.size)⟩
          clear hra hc0 hrl HTI HWD HI7 HA7 HB7
          generalize (belowO s6 xi).map nV = zs at *
          generalize (belowO s6 xi).length = L at *
          generalize hn6 : s6.n = n at *
          have HN6 := Lib.hid hn6
          clear hn6
          refine region_rows (by kernel_rfl) (fun W W' => Below W.heap.size W W')
            [.val (.bool true),
             .val (.bool false),
             .val (.bool false),
             .val (.pointer (some ⟨t, 0, none⟩)),
             .val (.int .i64 (n : Int)),
             .val (.pointer (some ⟨r, 0, none⟩)),
             .val (.pointer (some ⟨r, 0, none⟩)),
             .val (.pointer (some ⟨r, 0, none⟩)),
             .val (.slice Au n cu),
             .val (.int .i64 (n : Int)),
             .val (.bool false),
             .val (.bool false),
             .val (.bool false),
             .val (.pointer (some ⟨t, 0, none⟩)),
             .val (.pointer (some ⟨wr.heap.size, 1, none⟩)),
             .val (.int .i64 xi),
             ⟨fun v W => Own W 3 1 v L zs, fun _ _ _ h hR => h.below hR fun _ hk => h.lt hk⟩,
             .val (.pointer (some ⟨r, 0, none⟩)),
             .val (.pointer (some ⟨wr.heap.size, 1, none⟩)),
             .val (.int .i64 xi),
             ⟨fun v W => Own W 3 1 v L zs, fun _ _ _ h hR => h.below hR fun _ hk => h.lt hk⟩,
             .val (.bool true),
             .val (.bool false),
             .val (.bool false)]
            (fun W => Below.refl _ W) (fun _ _ _ h k => below_trans h k) (by kernel_rfl) ?_ ?_
          · refine ⟨?_, ?_, ?_, ?_, ?_, ?_, ?_, ?_, ?_, ?_, ?_, ?_, ?_, ?_, ?_, ?_, ?_, ?_, ?_, ?_, ?_, ?_, ?_, ?_, trivial⟩
            · intro ra RW hR hk hd K hK
              obtain ⟨y1, y2⟩ := HFC.out RW hR
              obtain ⟨e7, g7⟩ := hk 7 (.bool true) (by kernel_rfl) rfl
              clear hk hd
              have HR := Lib.hid hR
              clear hR
              go_simp
              exact hK _ _ (Below.refl _ _) rfl
            · intro ra RW hR hk hd K hK
              obtain ⟨y1, y2⟩ := HFC.out RW hR
              obtain ⟨v88, e88, g88, f88⟩ := hd 0 88 (by kernel_rfl) rfl
              have f88 : v88 = .bool true := f88
              subst f88
              clear hk hd
              have HR := Lib.hid hR
              clear hR
              go_simp
              exact hK _ _ (Below.refl _ _) rfl
            · intro ra RW hR hk hd K hK
              obtain ⟨y1, y2⟩ := HFC.out RW hR
              obtain ⟨v89, e89, g89, f89⟩ := hd 1 89 (by kernel_rfl) rfl
              have f89 : v89 = .bool false := f89
              subst f89
              clear hk hd
              have HR := Lib.hid hR
              clear hR
              go_simp
              exact hK _ _ (Below.refl _ _) rfl
            · intro ra RW hR hk hd K hK
              obtain ⟨y1, y2⟩ := HFC.out RW hR
              obtain ⟨e3, g3⟩ := hk 3 (.pointer (some ⟨t, 0, none⟩)) (by kernel_rfl) rfl
              obtain ⟨v90, e90, g90, f90⟩ := hd 2 90 (by kernel_rfl) rfl
              have f90 : v90 = .bool false := f90
              subst f90
              clear hk hd
              have HR := Lib.hid hR
              clear hR
              go_simp
              exact hK _ _ (Below.refl _ _) rfl
            · intro ra RW hR hk hd K hK
              obtain ⟨y1, y2⟩ := HFC.out RW hR
              obtain ⟨v91, e91, g91, f91⟩ := hd 3 91 (by kernel_rfl) rfl
              have f91 : v91 = .pointer (some ⟨t, 0, none⟩) := f91
              subst f91
              obtain ⟨v90, e90, g90, f90⟩ := hd 2 90 (by kernel_rfl) rfl
              have f90 : v90 = .bool false := f90
              subst f90
              clear hk hd
              have HR := Lib.hid hR
              clear hR
              go_simp
              refine (hSZ.out _ HR.out).mono ?_
              rintro e w2 ⟨rfl, rfl⟩
              exact hK _ _ (Below.refl _ _) rfl
            · intro ra RW hR hk hd K hK
              obtain ⟨y1, y2⟩ := HFC.out RW hR
              obtain ⟨e4, g4⟩ := hk 4 (.pointer (some ⟨r, 0, none⟩)) (by kernel_rfl) rfl
              obtain ⟨v90, e90, g90, f90⟩ := hd 2 90 (by kernel_rfl) rfl
              have f90 : v90 = .bool false := f90
              subst f90
              clear hk hd
              have HR := Lib.hid hR
              clear hR
              go_simp
              exact hK _ _ (Below.refl _ _) rfl
            · intro ra RW hR hk hd K hK
              obtain ⟨y1, y2⟩ := HFC.out RW hR
              obtain ⟨v93, e93, g93, f93⟩ := hd 5 93 (by kernel_rfl) rfl
              have f93 : v93 = .pointer (some ⟨r, 0, none⟩) := f93
              subst f93
              obtain ⟨v90, e90, g90, f90⟩ := hd 2 90 (by kernel_rfl) rfl
              have f90 : v90 = .bool false := f90
              subst f90
              clear hk hd
              have HR := Lib.hid hR
              clear hR
              go_simp
              exact hK _ _ (Below.refl _ _) rfl
            · intro ra RW hR hk hd K hK
              obtain ⟨y1, y2⟩ := HFC.out RW hR
              obtain ⟨v94, e94, g94, f94⟩ := hd 6 94 (by kernel_rfl) rfl
              have f94 : v94 = .pointer (some ⟨r, 0, none⟩) := f94
              subst f94
              obtain ⟨v90, e90, g90, f90⟩ := hd 2 90 (by kernel_rfl) rfl
              have f90 : v90 = .bool false := f90
              subst f90
              clear hk hd
              have HR := Lib.hid hR
              clear hR
              go_simp
              exact hK _ _ (Below.refl _ _) rfl
            · intro ra RW hR hk hd K hK
              obtain ⟨y1, y2⟩ := HFC.out RW hR
              obtain ⟨v95, e95, g95, f95⟩ := hd 7 95 (by kernel_rfl) rfl
              have f95 : v95 = .pointer (some ⟨r, 0, none⟩) := f95
              subst f95
              obtain ⟨v90, e90, g90, f90⟩ := hd 2 90 (by kernel_rfl) rfl
              have f90 : v90 = .bool false := f90
              subst f90
              clear hk hd
              have HR := Lib.hid hR
              clear hR
              go_simp
              exact hK _ _ (Below.refl _ _) rfl
            · intro ra RW hR hk hd K hK
              obtain ⟨y1, y2⟩ := HFC.out RW hR
              obtain ⟨v96, e96, g96, f96⟩ := hd 8 96 (by kernel_rfl) rfl
              have f96 : v96 = .slice Au n cu := f96
              subst f96
              obtain ⟨v90, e90, g90, f90⟩ := hd 2 90 (by kernel_rfl) rfl
              have f90 : v90 = .bool false := f90
              subst f90
              clear hk hd
              have HR := Lib.hid hR
              clear hR
              go_simp
              exact hK _ _ (Below.refl _ _) rfl
            · intro ra RW hR hk hd K hK
              obtain ⟨y1, y2⟩ := HFC.out RW hR
              obtain ⟨v92, e92, g92, f92⟩ := hd 4 92 (by kernel_rfl) rfl
              have f92 : v92 = .int .i64 (n : Int) := f92
              subst f92
              obtain ⟨v97, e97, g97, f97⟩ := hd 9 97 (by kernel_rfl) rfl
              have f97 : v97 = .int .i64 (n : Int) := f97
              subst f97
              obtain ⟨v90, e90, g90, f90⟩ := hd 2 90 (by kernel_rfl) rfl
              have f90 : v90 = .bool false := f90
              subst f90
              clear hk hd
              have HR := Lib.hid hR
              clear hR
              go_simp
              exact hK _ _ (Below.refl _ _) rfl
            · intro ra RW hR hk hd K hK
              obtain ⟨y1, y2⟩ := HFC.out RW hR
              obtain ⟨v90, e90, g90, f90⟩ := hd 2 90 (by kernel_rfl) rfl
              have f90 : v90 = .bool false := f90
              subst f90
              obtain ⟨v98, e98, g98, f98⟩ := hd 10 98 (by kernel_rfl) rfl
              have f98 : v98 = .bool false := f98
              subst f98
              clear hk hd
              have HR := Lib.hid hR
              clear hR
              go_simp
              exact hK _ _ (Below.refl _ _) rfl
            · intro ra RW hR hk hd K hK
              obtain ⟨y1, y2⟩ := HFC.out RW hR
              obtain ⟨v99, e99, g99, f99⟩ := hd 11 99 (by kernel_rfl) rfl
              have f99 : v99 = .bool false := f99
              subst f99
              clear hk hd
              have HR := Lib.hid hR
              clear hR
              go_simp
              exact hK _ _ (Below.refl _ _) rfl
            · intro ra RW hR hk hd K hK
              obtain ⟨y1, y2⟩ := HFC.out RW hR
              obtain ⟨e3, g3⟩ := hk 3 (.pointer (some ⟨t, 0, none⟩)) (by kernel_rfl) rfl
              obtain ⟨v100, e100, g100, f100⟩ := hd 12 100 (by kernel_rfl) rfl
              have f100 : v100 = .bool false := f100
              subst f100
              clear hk hd
              have HR := Lib.hid hR
              clear hR
              go_simp
              exact hK _ _ (Below.refl _ _) rfl
            · intro ra RW hR hk hd K hK
              obtain ⟨y1, y2⟩ := HFC.out RW hR
              obtain ⟨e6, g6⟩ := hk 6 (.pointer (some ⟨wr.heap.size, 0, none⟩)) (by kernel_rfl) rfl
              obtain ⟨v100, e100, g100, f100⟩ := hd 12 100 (by kernel_rfl) rfl
              have f100 : v100 = .bool false := f100
              subst f100
              clear hk hd
              have HR := Lib.hid hR
              clear hR
              go_simp
              exact hK _ _ (Below.refl _ _) rfl
            · intro ra RW hR hk hd K hK
              obtain ⟨y1, y2⟩ := HFC.out RW hR
              obtain ⟨v102, e102, g102, f102⟩ := hd 14 102 (by kernel_rfl) rfl
              have f102 : v102 = .pointer (some ⟨wr.heap.size, 1, none⟩) := f102
              subst f102
              obtain ⟨v100, e100, g100, f100⟩ := hd 12 100 (by kernel_rfl) rfl
              have f100 : v100 = .bool false := f100
              subst f100
              clear hk hd
              have HR := Lib.hid hR
              clear hR
              go_simp
              exact hK _ _ (Below.refl _ _) rfl
            · intro ra RW hR hk hd K hK
              obtain ⟨y1, y2⟩ := HFC.out RW hR
              obtain ⟨v101, e101, g101, f101⟩ := hd 13 101 (by kernel_rfl) rfl
              have f101 : v101 = .pointer (some ⟨t, 0, none⟩) := f101
              subst f101
              obtain ⟨v103, e103, g103, f103⟩ := hd 15 103 (by kernel_rfl) rfl
              have f103 : v103 = .int .i64 xi := f103
              subst f103
              obtain ⟨v100, e100, g100, f100⟩ := hd 12 100 (by kernel_rfl) rfl
              have f100 : v100 = .bool false := f100
              subst f100
              clear hk hd
              have HR := Lib.hid hR
              clear hR
              go_simp
              refine (hBE.out _ HR.out).mono ?_
              rintro e w2 ⟨v, rfl, hb, ho⟩
              exact hK _ _ hb ho
            · intro ra RW hR hk hd K hK
              obtain ⟨y1, y2⟩ := HFC.out RW hR
              obtain ⟨e4, g4⟩ := hk 4 (.pointer (some ⟨r, 0, none⟩)) (by kernel_rfl) rfl
              obtain ⟨v100, e100, g100, f100⟩ := hd 12 100 (by kernel_rfl) rfl
              have f100 : v100 = .bool false := f100
              subst f100
              clear hk hd
              have HR := Lib.hid hR
              clear hR
              go_simp
              exact hK _ _ (Below.refl _ _) rfl
            · intro ra RW hR hk hd K hK
              obtain ⟨y1, y2⟩ := HFC.out RW hR
              obtain ⟨e6, g6⟩ := hk 6 (.pointer (some ⟨wr.heap.size, 0, none⟩)) (by kernel_rfl) rfl
              obtain ⟨v100, e100, g100, f100⟩ := hd 12 100 (by kernel_rfl) rfl
              have f100 : v100 = .bool false := f100
              subst f100
              clear hk hd
              have HR := Lib.hid hR
              clear hR
              go_simp
              exact hK _ _ (Below.refl _ _) rfl
            · intro ra RW hR hk hd K hK
              obtain ⟨y1, y2⟩ := HFC.out RW hR
              obtain ⟨v106, e106, g106, f106⟩ := hd 18 106 (by kernel_rfl) rfl
              have f106 : v106 = .pointer (some ⟨wr.heap.size, 1, none⟩) := f106
              subst f106
              obtain ⟨v100, e100, g100, f100⟩ := hd 12 100 (by kernel_rfl) rfl
              have f100 : v100 = .bool false := f100
              subst f100
              clear hk hd
              have HR := Lib.hid hR
              clear hR
              go_simp
              exact hK _ _ (Below.refl _ _) rfl
            · intro ra RW hR hk hd K hK
              obtain ⟨y1, y2⟩ := HFC.out RW hR
              obtain ⟨v105, e105, g105, f105⟩ := hd 17 105 (by kernel_rfl) rfl
              have f105 : v105 = .pointer (some ⟨r, 0, none⟩) := f105
              subst f105
              obtain ⟨v107, e107, g107, f107⟩ := hd 19 107 (by kernel_rfl) rfl
              have f107 : v107 = .int .i64 xi := f107
              subst f107
              obtain ⟨v100, e100, g100, f100⟩ := hd 12 100 (by kernel_rfl) rfl
              have f100 : v100 = .bool false := f100
              subst f100
              clear hk hd
              have HR := Lib.hid hR
              clear hR
              go_simp
              refine (hRB.out _ HR.out).mono ?_
              rintro e w2 ⟨v, rfl, hb, ho⟩
              exact hK _ _ hb ho
            · intro ra RW hR hk hd K hK
              obtain ⟨y1, y2⟩ := HFC.out RW hR
              obtain ⟨v104, e104, g104, f104⟩ := hd 16 104 (by kernel_rfl) rfl
              have F104 := Lib.hid f104
              clear f104
              obtain ⟨v108, e108, g108, f108⟩ := hd 20 108 (by kernel_rfl) rfl
              have F108 := Lib.hid f108
              clear f108
              obtain ⟨v100, e100, g100, f100⟩ := hd 12 100 (by kernel_rfl) rfl
              have f100 : v100 = .bool false := f100
              subst f100
              clear hk hd
              have HR := Lib.hid hR
              clear hR
              go_simp
              refine (hIN.out _ _ _ F104.out F108.out).mono ?_
              rintro e w2 ⟨rfl, qq, rfl⟩
              exact hK _ _ (below_drewN (Below.refl _ _) qq) rfl
            · intro ra RW hR hk hd K hK
              obtain ⟨y1, y2⟩ := HFC.out RW hR
              obtain ⟨v109, e109, g109, f109⟩ := hd 21 109 (by kernel_rfl) rfl
              have f109 : v109 = .bool true := f109
              subst f109
              obtain ⟨v100, e100, g100, f100⟩ := hd 12 100 (by kernel_rfl) rfl
              have f100 : v100 = .bool false := f100
              subst f100
              clear hk hd
              have HR := Lib.hid hR
              clear hR
              go_simp
              exact hK _ _ (Below.refl _ _) rfl
            · intro ra RW hR hk hd K hK
              obtain ⟨y1, y2⟩ := HFC.out RW hR
              obtain ⟨v100, e100, g100, f100⟩ := hd 12 100 (by kernel_rfl) rfl
              have f100 : v100 = .bool false := f100
              subst f100
              obtain ⟨v110, e110, g110, f110⟩ := hd 22 110 (by kernel_rfl) rfl
              have f110 : v110 = .bool false := f110
              subst f110
              clear hk hd
              have HR := Lib.hid hR
              clear hR
              go_simp
              exact hK _ _ (Below.refl _ _) rfl
          intro vs RW hR hF
          have q0 : vs 0 = .bool true := hF 0 (by decide)
          have q1 : vs 1 = .bool false := hF 1 (by decide)
          have q2 : vs 2 = .bool false := hF 2 (by decide)
          have q3 : vs 3 = .pointer (some ⟨t, 0, none⟩) := hF 3 (by decide)
          have q4 : vs 4 = .int .i64 (n : Int) := hF 4 (by decide)
          have q5 : vs 5 = .pointer (some ⟨r, 0, none⟩) := hF 5 (by decide)
          have q6 : vs 6 = .pointer (some ⟨r, 0, none⟩) := hF 6 (by decide)
          have q7 : vs 7 = .pointer (some ⟨r, 0, none⟩) := hF 7 (by decide)
          have q8 : vs 8 = .slice Au n cu := hF 8 (by decide)
          have q9 : vs 9 = .int .i64 (n : Int) := hF 9 (by decide)
          have q10 : vs 10 = .bool false := hF 10 (by decide)
          have q11 : vs 11 = .bool false := hF 11 (by decide)
          have q12 : vs 12 = .bool false := hF 12 (by decide)
          have q13 : vs 13 = .pointer (some ⟨t, 0, none⟩) := hF 13 (by decide)
          have q14 : vs 14 = .pointer (some ⟨wr.heap.size, 1, none⟩) := hF 14 (by decide)
          have q15 : vs 15 = .int .i64 xi := hF 15 (by decide)
          have F104 := Lib.hid (hF 16 (by decide))
          have q17 : vs 17 = .pointer (some ⟨r, 0, none⟩) := hF 17 (by decide)
          have q18 : vs 18 = .pointer (some ⟨wr.heap.size, 1, none⟩) := hF 18 (by decide)
          have q19 : vs 19 = .int .i64 xi := hF 19 (by decide)
          have F108 := Lib.hid (hF 20 (by decide))
          have q21 : vs 21 = .bool true := hF 21 (by decide)
          have q22 : vs 22 = .bool false := hF 22 (by decide)
          have q23 : vs 23 = .bool false := hF 23 (by decide)
          simp only [setAll, List.setIfInBounds_toArray, List.set_cons_zero, List.set_cons_succ, q0, q1, q2, q3, q4, q5, q6, q7, q8, q9, q10, q11, q12, q13, q14, q15, q17, q18, q19, q21, q22, q23]
          clear hF q0 q1 q2 q3 q4 q5 q6 q7 q8 q9 q10 q11 q12 q13 q14 q15 q17 q18 q19 q21 q22 q23
          generalize vs 16 = v104 at *
          generalize vs 20 = v108 at *
          clear vs
          obtain ⟨hi9, hb9⟩ := HEND.out RW hR
          have HI9 := Lib.hid hi9; have HB9 := Lib.hid hb9
          clear hi9 hb9 hR HEND HFC hIN hRB hBE hSZ
          go_wp2_with fail
          go_loopw [16] (fun i wy => ∃ q : Nat, q ≤ n ∧ i = .int .i64 q ∧ TR w.heap.size NoT wy t r s6 ∧ Below w.heap.size w wy) (fun i _ => n - (intOf i).toNat)
          case atStart => exact ⟨0, by omega, rfl, HI9.out, HB9.out⟩
          case round =>
            obtain ⟨q, hq, rfl, hi, hb⟩ := hrel
            obtain ⟨S2, uv, cv, hra⟩ := hi.drep
            have hu0 := hra.c0
            have hc1 := hra.c1
            have HB := Lib.hid hb; have HI := Lib.hid hi
            by_cases hqn : q < n
            · have i5 : (q : Int) < (n : Int) := by omega
              have hlc : s6.ca.length = n := by rw [hi.1.cl, HN6.out]
              have hlu : s6.up.length = n := HN6.out
              obtain ⟨gu, ou, cu1, rfl, hcu⟩ := hra.uat (i := q) (by omega)
              obtain ⟨gc, oc, cc1, rfl, hcc, -, -⟩ := hra.cat (i := q) (by omega)
              rw [hlu] at hu0
              rw [hlc] at hc1
              have hCa : Hid (∀ d, Calls Try.prog 11 #[.pointer (some ⟨t, 0, none⟩), .int .i64 (q : Int)] (wr.drewN d) fun e w' => e = .returned (.int .i64 (s6.ca.getD q 0)) ∧ wr.drewN d = w') := fun d => by
                obtain ⟨S, hR⟩ := (HI.out.below (below_drewN (Below.refl _ _) d)).prep
                have := cause_any (q : Int) _ hR
                rw [cause_at (by rw [HN6.out]; exact hqn)] at this
                exact this
              have hPa : Hid (∀ d, Calls Try.prog 19 #[.pointer (some ⟨t, 0, none⟩), .int .i64 (q : Int)] (wr.drewN d) fun e w' => e = .returned (.int .i64 (s6.up.getD q 0)) ∧ wr.drewN d = w') := fun d => by
                obtain ⟨S, hR⟩ := (HI.out.below (below_drewN (Below.refl _ _) d)).prep
                have := parent_any (q : Int) _ hR
                rw [parentO_at (by rw [HN6.out]; exact hqn)] at this
                exact this
              clear hra hi hb hlc hlu
              generalize s6.ca.getD q 0 = z at *
              generalize s6.up.getD q 0 = u at *
              go_wp2_with fail
              go_quiet ((first
                | (go_at_call 11; exact quiet_left (hCa.out _))
                | (go_at_call 19; exact quiet_left (hPa.out _))))
              go_wp2_with fail
              go_roundw
              case rel => exact ⟨q + 1, by omega, by go_num, HI.out.below (below_drewN (Below.refl _ _) _), below_drewN HB.out _⟩
              case measure => simp [intOf]; omega
            · obtain rfl : q = n := by omega
              obtain ⟨Au1, cu1, rfl, -, -⟩ := hra.uo.len_
              have hlu : s6.up.length = q := HN6.out
              rw [hlu] at hu0
              clear hra hi hb hlu
              go_wp2_with fail
              go_roundw
              case rel => exact ⟨j + 1, s6, by omega, by go_num, HB.out, HI.out⟩
              case measure => simp [intOf]; omega
      · have hkb : (xk == 0) = false := by simpa using hk
        clear hk
        as_aux_lemma =>
          have hAd := can2 HIN.out xi xc
          have hRA : Hid (∀ W s' x y, Mid w.heap.size (fun k => k = wr.heap.size) W t r s' s → CanO s xi xc x y s' → Calls Try.prog 16 #[.pointer (some ⟨r, 0, none⟩), .int .i64 xi, .int .i64 xc] W fun e w' => e = .returned (.tuple #[.int .i64 x, .int .i64 y]) ∧ Mid w.heap.size (fun k => k = wr.heap.size) w' t r s' s' ∧ Only (fun k => w.heap.size ≤ k ∧ ¬ k = wr.heap.size) W w') := fun W s' x y h ho => rcan2 h HIN.out.1 hsn ho
          unfold pp at hAd
          have HAd := Lib.hid hAd
          clear hAd
          go_wp2_with (first
            | (go_at_call 9; refine HAd.out.mono ?_; rintro e6 w6 ⟨s6, ⟨x6, y6, rfl, ho6⟩, hm6, hd6⟩; have HA6 := Lib.hid (HA5.out.only hd6 (fun h => h.2 rfl)); have HB6 := Lib.hid (HB5.out.trans (hd6.below HIN.out.2.1 (fun k hk => hk.1))); have HM6 := Lib.hid hm6; have HO6 := Lib.hid ho6; clear hd6 hm6 ho6; have a61 : w6.cell? ⟨wr.heap.size, 1, none⟩ = some (.int .i64 xi) := (by rw [HA6.out.cell]; rfl); have a62 : w6.cell? ⟨wr.heap.size, 2, none⟩ = some (.int .i64 xc) := (by rw [HA6.out.cell]; rfl))
            | (go_at_call 16; refine (hRA.out _ _ _ _ HM6.out HO6.out).mono ?_; rintro e7 w7 ⟨rfl, hm7, hd7⟩; have HA7 := Lib.hid (HA6.out.only hd7 (fun h => h.2 rfl)); have HB7 := Lib.hid (HB6.out.trans (hd7.below HM6.out.1 (fun k hk => hk.1))); have HM7 := Lib.hid hm7; clear hd7 hm7))
          have HI7 : Hid (TR w.heap.size (fun k => k = wr.heap.size) w7 t r s6) := ⟨HO6.out.tr HIN.out.1, HM7.out⟩
          have HWD : Hid (∀ W, Below w7.drew.heap.size w7.drew W → Below w7.heap.size w7 W) := fun W hW => ⟨hW.os, hW.tape, hW.output, hW.size, hW.block⟩
          have HTI : Hid (∀ W, Below w7.drew.heap.size w7.drew W → TR w.heap.size (fun k => k = wr.heap.size) W t r s6) := fun W hW => HI7.out.below (HWD.out W hW)
          obtain ⟨S2, uv, cv, hra⟩ := HI7.out.drep
          obtain ⟨Au, cu, rfl, -, -⟩ := hra.uo.len_
          have hc0 := hra.c0
          have hrl := hra.lt r hra.st
          have hnn := HI7.out.nn
          have hSZ : Hid (∀ W, Below w7.drew.heap.size w7.drew W → Calls Try.prog 12 #[.pointer (some ⟨t, 0, none⟩)] W fun e w' => e = .returned (.int .i64 (s6.n : Int)) ∧ W = w') := fun W hW => by
            obtain ⟨S, hR⟩ := (HTI.out W hW).prep
            exact size_any W hR
          have hBE : Hid (∀ W, Below w7.drew.heap.size w7.drew W → Calls Try.prog 13 #[.pointer (some ⟨t, 0, none⟩), .int .i64 xi] W fun e w' => ∃ v, e = .returned v ∧ Below W.heap.size W w' ∧ Own w' 3 1 v (belowO s6 xi).length ((belowO s6 xi).map nV)) := fun W hW => by
            obtain ⟨S, hR⟩ := (HTI.out W hW).prep
            exact (below_any xi W hR (HTI.out W hW).1).mono fun e w' ⟨v, h1, h2, h3, _⟩ => ⟨v, h1, h2, h3⟩
          have hRB : Hid (∀ W, Below w7.drew.heap.size w7.drew W → Calls Try.prog 18 #[.pointer (some ⟨r, 0, none⟩), .int .i64 xi] W fun e w' => ∃ v, e = .returned v ∧ Below W.heap.size W w' ∧ Own w' 3 1 v (belowO s6 xi).length ((belowO s6 xi).map nV)) := fun W hW => by
            obtain ⟨S, hR⟩ := (HTI.out W hW).drep
            exact (rBelow_any xi W hR (HTI.out W hW).1 hnn).mono fun e w' ⟨v, h1, h2, h3, _⟩ => ⟨v, h1, h2, h3⟩
          have hbl : (belowO s6 xi).length ≤ 256 := by
            unfold belowO
            refine Nat.le_trans (List.length_filter_le _ _) ?_
            rw [List.length_range]
            exact hnn
          have hIN : Hid (∀ W v u, Own W 3 1 v (belowO s6 xi).length ((belowO s6 xi).map nV) → Own W 3 1 u (belowO s6 xi).length ((belowO s6 xi).map nV) → Calls Try.prog 17 #[v, u] W fun e w' => e = .returned (.bool true) ∧ ∃ q, w' = W.drewN q) := fun W v u h1 h2 => by
            rw [nV_map] at h1 h2
            obtain ⟨Av, cv, rfl, r1, -⟩ := Own.rdI h1
            obtain ⟨Av2, cv2, rfl, r2, -⟩ := Own.rdI h2
            refine (ints_any Av Av2 _ _ cv cv2 _ _ W _ _ r1 r2 (by omega) (by omega)).mono ?_
            rintro e w' ⟨rfl, hq⟩
            exact ⟨by simp, hq⟩
          have HFC : Hid (∀ W, Below w7.drew.heap.size w7.drew W → W.cell? ⟨r, 0, none⟩ = some (.slice Au s6.n cu) ∧ W.cell? ⟨wr.heap.size, 1, none⟩ = some (.int .i64 xi)) := fun W hW0 => by
            have hW := HWD.out W hW0
            exact ⟨(hW.cell (p := ⟨r, 0, none⟩) hrl).trans hc0, by have := HA7.out.below hW HA7.out.lt; rw [this.cell]; rfl⟩
          have HEND : Hid (∀ W, Below w7.drew.heap.size w7.drew W → TR w.heap.size NoT W t r s6 ∧ Below w.heap.size w W) := fun W hW0 => by
            have hW := HWD.out W hW0
            exact ⟨⟨(HTI.out W hW0).1, (HTI.out W hW0).2.frame (U := NoT) (Only.refl _ _) (fun _ h => h.elim) (fun _ h => h.elim)⟩, HB7.out.trans (hW.mono HB7.out.size)⟩
          clear hra hc0 hrl HTI HWD HI7 HA7 HB7
          generalize (belowO s6 xi).map nV = zs at *
          generalize (belowO s6 xi).length = L at *
          generalize hn6 : s6.n = n at *
          have HN6 := Lib.hid hn6
          clear hn6
          refine region_rows (by kernel_rfl) (fun W W' => Below W.heap.size W W')
            [.val (.bool true),
             .val (.bool false),
             .val (.bool false),
             .val (.pointer (some ⟨t, 0, none⟩)),
             .val (.int .i64 (n : Int)),
             .val (.pointer (some ⟨r, 0, none⟩)),
             .val (.pointer (some ⟨r, 0, none⟩)),
             .val (.pointer (some ⟨r, 0, none⟩)),
             .val (.slice Au n cu),
             .val (.int .i64 (n : Int)),
             .val (.bool false),
             .val (.bool false),
             .val (.bool false),
             .val (.pointer (some ⟨t, 0, none⟩)),
             .val (.pointer (some ⟨wr.heap.size, 1, none⟩)),
             .val (.int .i64 xi),
             ⟨fun v W => Own W 3 1 v L zs, fun _ _ _ h hR => h.below hR fun _ hk => h.lt hk⟩,
             .val (.pointer (some ⟨r, 0, none⟩)),
             .val (.pointer (some ⟨wr.heap.size, 1, none⟩)),
             .val (.int .i64 xi),
             ⟨fun v W => Own W 3 1 v L zs, fun _ _ _ h hR => h.below hR fun _ hk => h.lt hk⟩,
             .val (.bool true),
             .val (.bool false),
             .val (.bool false)]
            (fun W => Below.refl _ W) (fun _ _ _ h k => below_trans h k) (by kernel_rfl) ?_ ?_
          · refine ⟨?_, ?_, ?_, ?_, ?_, ?_, ?_, ?_, ?_, ?_, ?_, ?_, ?_, ?_, ?_, ?_, ?_, ?_, ?_, ?_, ?_, ?_, ?_, ?_, trivial⟩
            · intro ra RW hR hk hd K hK
              obtain ⟨y1, y2⟩ := HFC.out RW hR
              obtain ⟨e7, g7⟩ := hk 7 (.bool true) (by kernel_rfl) rfl
              clear hk hd
              have HR := Lib.hid hR
              clear hR
              go_simp
              exact hK _ _ (Below.refl _ _) rfl
            · intro ra RW hR hk hd K hK
              obtain ⟨y1, y2⟩ := HFC.out RW hR
              obtain ⟨v88, e88, g88, f88⟩ := hd 0 88 (by kernel_rfl) rfl
              have f88 : v88 = .bool true := f88
              subst f88
              clear hk hd
              have HR := Lib.hid hR
              clear hR
              go_simp
              exact hK _ _ (Below.refl _ _) rfl
            · intro ra RW hR hk hd K hK
              obtain ⟨y1, y2⟩ := HFC.out RW hR
              obtain ⟨v89, e89, g89, f89⟩ := hd 1 89 (by kernel_rfl) rfl
              have f89 : v89 = .bool false := f89
              subst f89
              clear hk hd
              have HR := Lib.hid hR
              clear hR
              go_simp
              exact hK _ _ (Below.refl _ _) rfl
            · intro ra RW hR hk hd K hK
              obtain ⟨y1, y2⟩ := HFC.out RW hR
              obtain ⟨e3, g3⟩ := hk 3 (.pointer (some ⟨t, 0, none⟩)) (by kernel_rfl) rfl
              obtain ⟨v90, e90, g90, f90⟩ := hd 2 90 (by kernel_rfl) rfl
              have f90 : v90 = .bool false := f90
              subst f90
              clear hk hd
              have HR := Lib.hid hR
              clear hR
              go_simp
              exact hK _ _ (Below.refl _ _) rfl
            · intro ra RW hR hk hd K hK
              obtain ⟨y1, y2⟩ := HFC.out RW hR
              obtain ⟨v91, e91, g91, f91⟩ := hd 3 91 (by kernel_rfl) rfl
              have f91 : v91 = .pointer (some ⟨t, 0, none⟩) := f91
              subst f91
              obtain ⟨v90, e90, g90, f90⟩ := hd 2 90 (by kernel_rfl) rfl
              have f90 : v90 = .bool false := f90
              subst f90
              clear hk hd
              have HR := Lib.hid hR
              clear hR
              go_simp
              refine (hSZ.out _ HR.out).mono ?_
              rintro e w2 ⟨rfl, rfl⟩
              exact hK _ _ (Below.refl _ _) rfl
            · intro ra RW hR hk hd K hK
              obtain ⟨y1, y2⟩ := HFC.out RW hR
              obtain ⟨e4, g4⟩ := hk 4 (.pointer (some ⟨r, 0, none⟩)) (by kernel_rfl) rfl
              obtain ⟨v90, e90, g90, f90⟩ := hd 2 90 (by kernel_rfl) rfl
              have f90 : v90 = .bool false := f90
              subst f90
              clear hk hd
              have HR := Lib.hid hR
              clear hR
              go_simp
              exact hK _ _ (Below.refl _ _) rfl
            · intro ra RW hR hk hd K hK
              obtain ⟨y1, y2⟩ := HFC.out RW hR
              obtain ⟨v93, e93, g93, f93⟩ := hd 5 93 (by kernel_rfl) rfl
              have f93 : v93 = .pointer (some ⟨r, 0, none⟩) := f93
              subst f93
              obtain ⟨v90, e90, g90, f90⟩ := hd 2 90 (by kernel_rfl) rfl
              have f90 : v90 = .bool false := f90
              subst f90
              clear hk hd
              have HR := Lib.hid hR
              clear hR
              go_simp
              exact hK _ _ (Below.refl _ _) rfl
            · intro ra RW hR hk hd K hK
              obtain ⟨y1, y2⟩ := HFC.out RW hR
              obtain ⟨v94, e94, g94, f94⟩ := hd 6 94 (by kernel_rfl) rfl
              have f94 : v94 = .pointer (some ⟨r, 0, none⟩) := f94
              subst f94
              obtain ⟨v90, e90, g90, f90⟩ := hd 2 90 (by kernel_rfl) rfl
              have f90 : v90 = .bool false := f90
              subst f90
              clear hk hd
              have HR := Lib.hid hR
              clear hR
              go_simp
              exact hK _ _ (Below.refl _ _) rfl
            · intro ra RW hR hk hd K hK
              obtain ⟨y1, y2⟩ := HFC.out RW hR
              obtain ⟨v95, e95, g95, f95⟩ := hd 7 95 (by kernel_rfl) rfl
              have f95 : v95 = .pointer (some ⟨r, 0, none⟩) := f95
              subst f95
              obtain ⟨v90, e90, g90, f90⟩ := hd 2 90 (by kernel_rfl) rfl
              have f90 : v90 = .bool false := f90
              subst f90
              clear hk hd
              have HR := Lib.hid hR
              clear hR
              go_simp
              exact hK _ _ (Below.refl _ _) rfl
            · intro ra RW hR hk hd K hK
              obtain ⟨y1, y2⟩ := HFC.out RW hR
              obtain ⟨v96, e96, g96, f96⟩ := hd 8 96 (by kernel_rfl) rfl
              have f96 : v96 = .slice Au n cu := f96
              subst f96
              obtain ⟨v90, e90, g90, f90⟩ := hd 2 90 (by kernel_rfl) rfl
              have f90 : v90 = .bool false := f90
              subst f90
              clear hk hd
              have HR := Lib.hid hR
              clear hR
              go_simp
              exact hK _ _ (Below.refl _ _) rfl
            · intro ra RW hR hk hd K hK
              obtain ⟨y1, y2⟩ := HFC.out RW hR
              obtain ⟨v92, e92, g92, f92⟩ := hd 4 92 (by kernel_rfl) rfl
              have f92 : v92 = .int .i64 (n : Int) := f92
              subst f92
              obtain ⟨v97, e97, g97, f97⟩ := hd 9 97 (by kernel_rfl) rfl
              have f97 : v97 = .int .i64 (n : Int) := f97
              subst f97
              obtain ⟨v90, e90, g90, f90⟩ := hd 2 90 (by kernel_rfl) rfl
              have f90 : v90 = .bool false := f90
              subst f90
              clear hk hd
              have HR := Lib.hid hR
              clear hR
              go_simp
              exact hK _ _ (Below.refl _ _) rfl
            · intro ra RW hR hk hd K hK
              obtain ⟨y1, y2⟩ := HFC.out RW hR
              obtain ⟨v90, e90, g90, f90⟩ := hd 2 90 (by kernel_rfl) rfl
              have f90 : v90 = .bool false := f90
              subst f90
              obtain ⟨v98, e98, g98, f98⟩ := hd 10 98 (by kernel_rfl) rfl
              have f98 : v98 = .bool false := f98
              subst f98
              clear hk hd
              have HR := Lib.hid hR
              clear hR
              go_simp
              exact hK _ _ (Below.refl _ _) rfl
            · intro ra RW hR hk hd K hK
              obtain ⟨y1, y2⟩ := HFC.out RW hR
              obtain ⟨v99, e99, g99, f99⟩ := hd 11 99 (by kernel_rfl) rfl
              have f99 : v99 = .bool false := f99
              subst f99
              clear hk hd
              have HR := Lib.hid hR
              clear hR
              go_simp
              exact hK _ _ (Below.refl _ _) rfl
            · intro ra RW hR hk hd K hK
              obtain ⟨y1, y2⟩ := HFC.out RW hR
              obtain ⟨e3, g3⟩ := hk 3 (.pointer (some ⟨t, 0, none⟩)) (by kernel_rfl) rfl
              obtain ⟨v100, e100, g100, f100⟩ := hd 12 100 (by kernel_rfl) rfl
              have f100 : v100 = .bool false := f100
              subst f100
              clear hk hd
              have HR := Lib.hid hR
              clear hR
              go_simp
              exact hK _ _ (Below.refl _ _) rfl
            · intro ra RW hR hk hd K hK
              obtain ⟨y1, y2⟩ := HFC.out RW hR
              obtain ⟨e6, g6⟩ := hk 6 (.pointer (some ⟨wr.heap.size, 0, none⟩)) (by kernel_rfl) rfl
              obtain ⟨v100, e100, g100, f100⟩ := hd 12 100 (by kernel_rfl) rfl
              have f100 : v100 = .bool false := f100
              subst f100
              clear hk hd
              have HR := Lib.hid hR
              clear hR
              go_simp
              exact hK _ _ (Below.refl _ _) rfl
            · intro ra RW hR hk hd K hK
              obtain ⟨y1, y2⟩ := HFC.out RW hR
              obtain ⟨v102, e102, g102, f102⟩ := hd 14 102 (by kernel_rfl) rfl
              have f102 : v102 = .pointer (some ⟨wr.heap.size, 1, none⟩) := f102
              subst f102
              obtain ⟨v100, e100, g100, f100⟩ := hd 12 100 (by kernel_rfl) rfl
              have f100 : v100 = .bool false := f100
              subst f100
              clear hk hd
              have HR := Lib.hid hR
              clear hR
              go_simp
              exact hK _ _ (Below.refl _ _) rfl
            · intro ra RW hR hk hd K hK
              obtain ⟨y1, y2⟩ := HFC.out RW hR
              obtain ⟨v101, e101, g101, f101⟩ := hd 13 101 (by kernel_rfl) rfl
              have f101 : v101 = .pointer (some ⟨t, 0, none⟩) := f101
              subst f101
              obtain ⟨v103, e103, g103, f103⟩ := hd 15 103 (by kernel_rfl) rfl
              have f103 : v103 = .int .i64 xi := f103
              subst f103
              obtain ⟨v100, e100, g100, f100⟩ := hd 12 100 (by kernel_rfl) rfl
              have f100 : v100 = .bool false := f100
              subst f100
              clear hk hd
              have HR := Lib.hid hR
              clear hR
              go_simp
              refine (hBE.out _ HR.out).mono ?_
              rintro e w2 ⟨v, rfl, hb, ho⟩
              exact hK _ _ hb ho
            · intro ra RW hR hk hd K hK
              obtain ⟨y1, y2⟩ := HFC.out RW hR
              obtain ⟨e4, g4⟩ := hk 4 (.pointer (some ⟨r, 0, none⟩)) (by kernel_rfl) rfl
              obtain ⟨v100, e100, g100, f100⟩ := hd 12 100 (by kernel_rfl) rfl
              have f100 : v100 = .bool false := f100
              subst f100
              clear hk hd
              have HR := Lib.hid hR
              clear hR
              go_simp
              exact hK _ _ (Below.refl _ _) rfl
            · intro ra RW hR hk hd K hK
              obtain ⟨y1, y2⟩ := HFC.out RW hR
              obtain ⟨e6, g6⟩ := hk 6 (.pointer (some ⟨wr.heap.size, 0, none⟩)) (by kernel_rfl) rfl
              obtain ⟨v100, e100, g100, f100⟩ := hd 12 100 (by kernel_rfl) rfl
              have f100 : v100 = .bool false := f100
              subst f100
              clear hk hd
              have HR := Lib.hid hR
              clear hR
              go_simp
              exact hK _ _ (Below.refl _ _) rfl
            · intro ra RW hR hk hd K hK
              obtain ⟨y1, y2⟩ := HFC.out RW hR
              obtain ⟨v106, e106, g106, f106⟩ := hd 18 106 (by kernel_rfl) rfl
              have f106 : v106 = .pointer (some ⟨wr.heap.size, 1, none⟩) := f106
              subst f106
              obtain ⟨v100, e100, g100, f100⟩ := hd 12 100 (by kernel_rfl) rfl
              have f100 : v100 = .bool false := f100
              subst f100
              clear hk hd
              have HR := Lib.hid hR
              clear hR
              go_simp
              exact hK _ _ (Below.refl _ _) rfl
            · intro ra RW hR hk hd K hK
              obtain ⟨y1, y2⟩ := HFC.out RW hR
              obtain ⟨v105, e105, g105, f105⟩ := hd 17 105 (by kernel_rfl) rfl
              have f105 : v105 = .pointer (some ⟨r, 0, none⟩) := f105
              subst f105
              obtain ⟨v107, e107, g107, f107⟩ := hd 19 107 (by kernel_rfl) rfl
              have f107 : v107 = .int .i64 xi := f107
              subst f107
              obtain ⟨v100, e100, g100, f100⟩ := hd 12 100 (by kernel_rfl) rfl
              have f100 : v100 = .bool false := f100
              subst f100
              clear hk hd
              have HR := Lib.hid hR
              clear hR
              go_simp
              refine (hRB.out _ HR.out).mono ?_
              rintro e w2 ⟨v, rfl, hb, ho⟩
              exact hK _ _ hb ho
            · intro ra RW hR hk hd K hK
              obtain ⟨y1, y2⟩ := HFC.out RW hR
              obtain ⟨v104, e104, g104, f104⟩ := hd 16 104 (by kernel_rfl) rfl
              have F104 := Lib.hid f104
              clear f104
              obtain ⟨v108, e108, g108, f108⟩ := hd 20 108 (by kernel_rfl) rfl
              have F108 := Lib.hid f108
              clear f108
              obtain ⟨v100, e100, g100, f100⟩ := hd 12 100 (by kernel_rfl) rfl
              have f100 : v100 = .bool false := f100
              subst f100
              clear hk hd
              have HR := Lib.hid hR
              clear hR
              go_simp
              refine (hIN.out _ _ _ F104.out F108.out).mono ?_
              rintro e w2 ⟨rfl, qq, rfl⟩
              exact hK _ _ (below_drewN (Below.refl _ _) qq) rfl
            · intro ra RW hR hk hd K hK
              obtain ⟨y1, y2⟩ := HFC.out RW hR
              obtain ⟨v109, e109, g109, f109⟩ := hd 21 109 (by kernel_rfl) rfl
              have f109 : v109 = .bool true := f109
              subst f109
              obtain ⟨v100, e100, g100, f100⟩ := hd 12 100 (by kernel_rfl) rfl
              have f100 : v100 = .bool false := f100
              subst f100
              clear hk hd
              have HR := Lib.hid hR
              clear hR
              go_simp
              exact hK _ _ (Below.refl _ _) rfl
            · intro ra RW hR hk hd K hK
              obtain ⟨y1, y2⟩ := HFC.out RW hR
              obtain ⟨v100, e100, g100, f100⟩ := hd 12 100 (by kernel_rfl) rfl
              have f100 : v100 = .bool false := f100
              subst f100
              obtain ⟨v110, e110, g110, f110⟩ := hd 22 110 (by kernel_rfl) rfl
              have f110 : v110 = .bool false := f110
              subst f110
              clear hk hd
              have HR := Lib.hid hR
              clear hR
              go_simp
              exact hK _ _ (Below.refl _ _) rfl
          intro vs RW hR hF
          have q0 : vs 0 = .bool true := hF 0 (by decide)
          have q1 : vs 1 = .bool false := hF 1 (by decide)
          have q2 : vs 2 = .bool false := hF 2 (by decide)
          have q3 : vs 3 = .pointer (some ⟨t, 0, none⟩) := hF 3 (by decide)
          have q4 : vs 4 = .int .i64 (n : Int) := hF 4 (by decide)
          have q5 : vs 5 = .pointer (some ⟨r, 0, none⟩) := hF 5 (by decide)
          have q6 : vs 6 = .pointer (some ⟨r, 0, none⟩) := hF 6 (by decide)
          have q7 : vs 7 = .pointer (some ⟨r, 0, none⟩) := hF 7 (by decide)
          have q8 : vs 8 = .slice Au n cu := hF 8 (by decide)
          have q9 : vs 9 = .int .i64 (n : Int) := hF 9 (by decide)
          have q10 : vs 10 = .bool false := hF 10 (by decide)
          have q11 : vs 11 = .bool false := hF 11 (by decide)
          have q12 : vs 12 = .bool false := hF 12 (by decide)
          have q13 : vs 13 = .pointer (some ⟨t, 0, none⟩) := hF 13 (by decide)
          have q14 : vs 14 = .pointer (some ⟨wr.heap.size, 1, none⟩) := hF 14 (by decide)
          have q15 : vs 15 = .int .i64 xi := hF 15 (by decide)
          have F104 := Lib.hid (hF 16 (by decide))
          have q17 : vs 17 = .pointer (some ⟨r, 0, none⟩) := hF 17 (by decide)
          have q18 : vs 18 = .pointer (some ⟨wr.heap.size, 1, none⟩) := hF 18 (by decide)
          have q19 : vs 19 = .int .i64 xi := hF 19 (by decide)
          have F108 := Lib.hid (hF 20 (by decide))
          have q21 : vs 21 = .bool true := hF 21 (by decide)
          have q22 : vs 22 = .bool false := hF 22 (by decide)
          have q23 : vs 23 = .bool false := hF 23 (by decide)
          simp only [setAll, List.setIfInBounds_toArray, List.set_cons_zero, List.set_cons_succ, q0, q1, q2, q3, q4, q5, q6, q7, q8, q9, q10, q11, q12, q13, q14, q15, q17, q18, q19, q21, q22, q23]
          clear hF q0 q1 q2 q3 q4 q5 q6 q7 q8 q9 q10 q11 q12 q13 q14 q15 q17 q18 q19 q21 q22 q23
          generalize vs 16 = v104 at *
          generalize vs 20 = v108 at *
          clear vs
          obtain ⟨hi9, hb9⟩ := HEND.out RW hR
          have HI9 := Lib.hid hi9; have HB9 := Lib.hid hb9
          clear hi9 hb9 hR HEND HFC hIN hRB hBE hSZ
          go_wp2_with fail
          go_loopw [16] (fun i wy => ∃ q : Nat, q ≤ n ∧ i = .int .i64 q ∧ TR w.heap.size NoT wy t r s6 ∧ Below w.heap.size w wy) (fun i _ => n - (intOf i).toNat)
          case atStart => exact ⟨0, by omega, rfl, HI9.out, HB9.out⟩
          case round =>
            obtain ⟨q, hq, rfl, hi, hb⟩ := hrel
            obtain ⟨S2, uv, cv, hra⟩ := hi.drep
            have hu0 := hra.c0
            have hc1 := hra.c1
            have HB := Lib.hid hb; have HI := Lib.hid hi
            by_cases hqn : q < n
            · have i5 : (q : Int) < (n : Int) := by omega
              have hlc : s6.ca.length = n := by rw [hi.1.cl, HN6.out]
              have hlu : s6.up.length = n := HN6.out
              obtain ⟨gu, ou, cu1, rfl, hcu⟩ := hra.uat (i := q) (by omega)
              obtain ⟨gc, oc, cc1, rfl, hcc, -, -⟩ := hra.cat (i := q) (by omega)
              rw [hlu] at hu0
              rw [hlc] at hc1
              have hCa : Hid (∀ d, Calls Try.prog 11 #[.pointer (some ⟨t, 0, none⟩), .int .i64 (q : Int)] (wr.drewN d) fun e w' => e = .returned (.int .i64 (s6.ca.getD q 0)) ∧ wr.drewN d = w') := fun d => by
                obtain ⟨S, hR⟩ := (HI.out.below (below_drewN (Below.refl _ _) d)).prep
                have := cause_any (q : Int) _ hR
                rw [cause_at (by rw [HN6.out]; exact hqn)] at this
                exact this
              have hPa : Hid (∀ d, Calls Try.prog 19 #[.pointer (some ⟨t, 0, none⟩), .int .i64 (q : Int)] (wr.drewN d) fun e w' => e = .returned (.int .i64 (s6.up.getD q 0)) ∧ wr.drewN d = w') := fun d => by
                obtain ⟨S, hR⟩ := (HI.out.below (below_drewN (Below.refl _ _) d)).prep
                have := parent_any (q : Int) _ hR
                rw [parentO_at (by rw [HN6.out]; exact hqn)] at this
                exact this
              clear hra hi hb hlc hlu
              generalize s6.ca.getD q 0 = z at *
              generalize s6.up.getD q 0 = u at *
              go_wp2_with fail
              go_quiet ((first
                | (go_at_call 11; exact quiet_left (hCa.out _))
                | (go_at_call 19; exact quiet_left (hPa.out _))))
              go_wp2_with fail
              go_roundw
              case rel => exact ⟨q + 1, by omega, by go_num, HI.out.below (below_drewN (Below.refl _ _) _), below_drewN HB.out _⟩
              case measure => simp [intOf]; omega
            · obtain rfl : q = n := by omega
              obtain ⟨Au1, cu1, rfl, -, -⟩ := hra.uo.len_
              have hlu : s6.up.length = q := HN6.out
              rw [hlu] at hu0
              clear hra hi hb hlu
              go_wp2_with fail
              go_roundw
              case rel => exact ⟨j + 1, s6, by omega, by go_num, HB.out, HI.out⟩
              case measure => simp [intOf]; omega
    · obtain rfl : j = m := by omega
      obtain ⟨S2, uv, cv, hra⟩ := hin.drep
      obtain ⟨Au, cu, rfl, -, -⟩ := hra.uo.len_
      have c0 := hra.c0
      obtain ⟨S, hP⟩ := hin.prep
      have hCa : Hid (Calls Try.prog 11 #[.pointer (some ⟨t, 0, none⟩), .int .i64 (s.up.length : Int)] wr fun e w' => e = .returned (.int .i64 0) ∧ wr = w') := by
        have := cause_any (s.up.length : Int) wr hP
        rwa [show causeO s (s.up.length : Int) = 0 from if_neg (fun h => by have := h.2; unfold TS.n at this; omega)] at this
      have hPa : Hid (Calls Try.prog 19 #[.pointer (some ⟨t, 0, none⟩), .int .i64 (-5)] wr fun e w' => e = .returned (.int .i64 (-1)) ∧ wr = w') := by
        have := parent_any (-5) wr hP
        rwa [show parentO s (-5) = -1 from if_neg (fun h => by have := h.1; omega)] at this
      have HB := Lib.hid hbw
      clear hra hP hbw hin
      generalize s.up.length = n at *
      go_wp2_with (first
        | (go_at_call 11; refine hCa.out.mono ?_; rintro e7 w7 ⟨rfl, rfl⟩)
        | (go_at_call 19; refine hPa.out.mono ?_; rintro e7 w7 ⟨rfl, rfl⟩))
      go_ret
      exact ⟨rfl, HB.out⟩

set_option maxHeartbeats 2000000 in
theorem acts_big (A : Option Addr) (m c : Nat) (w : World) (hm : ¬ m ≤ 60) :
    Calls Try.prog 5 #[.slice A m c] w fun e w' => e = .returned (.bool true) ∧ Below w.heap.size w w' := by
  have hA : Hid (∀ w, Calls Try.prog 7 #[] w fun e w' => e = .returned (.bool true) ∧ Below w.heap.size w w') := awake_any
  have i1 : (60 : Int) < (m : Int) := by omega
  clear hm
  go_enter Try.func5, Try.ntmps5
  go_wp2_with (first
    | (go_at_call 7; refine (hA.out _).mono ?_; rintro e2 w2 ⟨rfl, hb2⟩; have HB2 := Lib.hid (below_trans HB1.out hb2); clear hb2)
    | (go_at_call 7; refine (hA.out _).mono ?_; rintro e1 w1 ⟨rfl, hb1⟩; have HB1 := Lib.hid hb1; clear hb1))
  go_ret
  exact ⟨rfl, HB2.out⟩
theorem acts_any (acts : List ActD) (A : Option Addr) (m c : Nat) (w : World) (hr : ActsAt w w.heap.size A m acts) :
    Calls Try.prog 5 #[.slice A m c] w fun e w' => e = .returned (.bool true) ∧ Below w.heap.size w w' := by
  by_cases h : m ≤ 60
  · exact acts_small acts A m c w hr h
  · exact acts_big A m c w h
end Go.Proofs.Ytddklpphcfgooaa
