/-
  The law ModeLines returns true: its walk where all numbers are in their bounds; no condition beyond those that each theorem states.
-/
import Derived.Test.YtbgmdjceecbbhaaDoorLines2
import Derived.Test.YtbgmdjceecbbhaaDoorRegion5
namespace Go.Proofs.YtbgmdjceecbbhaaDoor
open Go.RowKit Go.Rb
attribute [local irreducible] Go.wpQuiet

theorem box3 {W : World} {g : Nat} {t : TypeId} {a b c : Value} (h : Blk W g t #[a, b, c]) : W.cell? ⟨g, 0, none⟩ = some a ∧ W.cell? ⟨g, 1, none⟩ = some b ∧ W.cell? ⟨g, 2, none⟩ = some c := ⟨h.cell 0, h.cell 1, h.cell 2⟩
theorem texts_own {w : World} {A A' : Option Addr} {c c' B B' : Nat} {E : List (List UInt8)} {n : Nat} (hE : E.length = n) (h1 : Rd w B 1 A n (lns E)) (h2 : Rd w B' 1 A' n (lns E)) (hn : n ≤ 1000000) :
    Calls Tryd.prog 12 #[.slice A n c, .slice A' n c'] w fun e w' => e = .returned (.bool true) ∧ ∃ q, w' = w.drewN q := by
  have e : lns E = (E.map mk).map tV := by unfold lns; rw [List.map_map]; rfl
  rw [e] at h1 h2
  exact texts_same A A' n c c' (E.map mk) w B B' h1 h2 hn
set_option maxRecDepth 20000 in
set_option maxHeartbeats 1000000 in
theorem lines_good (tell be af : Nat) (ht : tell ≤ 3) (hbe : be ≤ 16) (haf : af ≤ 16) (l : List Rw) (A : Option Addr) (n c : Nat) (w : World) (hT : Tb w) (hr : Rws w w.heap.size A n l) (hnc : n ≤ c) (hn : n ≤ 30) :
    Calls Tryd.prog 6 #[.agg #[.int .i64 (tell : Int), .int .i64 (be : Int), .int .i64 (af : Int)], .slice A n c] w fun e w' => e = .returned (.bool true) ∧ Below w.heap.size w w' := by
  obtain ⟨i0, hi0, hz0, hz1, hz2⟩ := info_parts infoS
  have HBW := Lib.hid (below_al (Below.refl _ w) (.cells #[.int .i64 (tell : Int), .int .i64 (be : Int), .int .i64 (af : Int)] 42))
  have HAW := Lib.hid (fun W (h : Tb W) => awake_any W h)
  have HT := Lib.hid hT
  have hp0 := hT.lt
  have HT1 := Lib.hid (hT.alloc (.cells #[.int .i64 (tell : Int), .int .i64 (be : Int), .int .i64 (af : Int)] 42))
  have HX := Lib.hid (Blk.new w 42 #[.int .i64 (tell : Int), .int .i64 (be : Int), .int .i64 (af : Int)])
  have HR := Lib.hid hr
  have HL := Lib.hid hr.1
  have HTE := Lib.hid ht
  have F1 : decide (30 < (n : Int)) = false := decide_eq_false (by omega)
  have G1 : decide ((tell : Int) < 0) = false := decide_eq_false (by omega)
  have G2 : decide (3 < (tell : Int)) = false := decide_eq_false (by omega)
  have G3 : decide ((be : Int) < 0) = false := decide_eq_false (by omega)
  have G4 : decide (16 < (be : Int)) = false := decide_eq_false (by omega)
  have G5 : decide ((af : Int) < 0) = false := decide_eq_false (by omega)
  have G6 : decide (16 < (af : Int)) = false := decide_eq_false (by omega)
  clear hT hr
  go_enter Tryd.func6, Tryd.ntmps6
  go_wp2_with fail
  have hsz1 : (w.alloc (.cells #[.int .i64 (tell : Int), .int .i64 (be : Int), .int .i64 (af : Int)] 42)).heap.size = w.heap.size + 1 := by simp
  generalize w.alloc (.cells #[.int .i64 (tell : Int), .int .i64 (be : Int), .int .i64 (af : Int)] 42) = W1 at *
  refine (HAW.out W1 HT1.out).mono ?_
  rintro e1 w1 ⟨rfl, hb1⟩
  have HX1 := Lib.hid (HX.out.below hb1 HX.out.lt)
  have x0 := HX1.out.cell 0
  have x1 := HX1.out.cell 1
  have x2 := HX1.out.cell 2
  simp only [List.getElem?_toArray, List.getElem?_cons_succ, List.getElem?_cons_zero] at x0 x1 x2
  have HB1 := Lib.hid (below_trans HBW.out hb1)
  have hsw1 : w.heap.size < w1.heap.size := by have := hb1.size; omega
  clear hb1 hsz1 HX HBW HT1
  have HNW := Lib.hid (new_ok tell be af (by omega) (by omega) (by omega) (by omega) (by omega) (by omega) w1)
  unfold pp at HNW
  obtain ⟨hb, hhb⟩ : ∃ hb, w.heap.size = hb := ⟨_, rfl⟩
  have HHB := Lib.hid hhb
  rw [hhb] at HX1 x0 x1 x2 ⊢
  clear hhb
  go_wp2_with (go_at_call 8; go_loud (refine HNW.out.mono ?_; rintro e2 w2 ⟨rfl, htr2, hb2, hsz2⟩; have HTR2 := Lib.hid htr2; have HB2 := Lib.hid (HB1.out.trans (hb2.mono HB1.out.size)); have HX2 := Lib.hid (HX1.out.below hb2 HX1.out.lt); obtain ⟨y0, y1, y2⟩ := box3 HX2.out; clear htr2 hb2 hsz2))
  obtain ⟨p, hp⟩ : ∃ p, w1.heap.size = p := ⟨_, rfl⟩
  rw [hp] at HTR2 hsw1 ⊢
  have HPB := Lib.hid hsw1
  clear x0 x1 x2 y0 y1 y2 hp hsw1 HX1 G1 G2 G3 G4 G5 G6
  have HBEG := Lib.hid (LI.begin_ tell be af HTE.out l)
  have HT := HT
  go_loopw [7, 8, 9, 10, 11, 12] (fun tv iv _ _ _ _ wr => ∃ (i : Nat) (s : Ts) (hv : Value), iv = .int .i64 i ∧ i ≤ n ∧ Hid (Own wr 9 1 tv (refL tell be af l i false).length (lns (refL tell be af l i false))) ∧ Hid (∀ k, tv.ownBlock = some k → w.heap.size ≤ k) ∧ Hid (LI tell be af l i s) ∧ Hid (FitI l i) ∧ Hid (Tr wr p s hv) ∧ Hid (∀ k, hv.ownBlock = some k → w.heap.size ≤ k) ∧ Hid (Blk wr hb 42 #[.int .i64 (tell : Int), .int .i64 (be : Int), .int .i64 (af : Int)]) ∧ Hid (Below w.heap.size w wr)) (fun _ iv _ _ _ _ _ => n - (intOf iv).toNat)
  case atStart => exact ⟨0, _, _, rfl, by omega, by show Own _ _ _ _ _ _; rw [HBEG.out.2]; exact Own.nil_ _ _ _, fun k hk => by simp [Value.ownBlock] at hk, HBEG.out.1, fun j _ h => by omega, HTR2.out, fun k hk => by simp [Value.ownBlock] at hk, HX2.out, HB2.out⟩
  case round =>
    obtain ⟨i, s, hv, rfl, hi, hown, hok, hli, hfi, htr, hkv, hbx, hbw⟩ := hrel
    have HTW := Lib.hid (HT.out.below' hbw.out)
    have hlen := refL_len (tell := tell) (be := be) (af := af) hfi.out (by rw [HL.out]; exact hi) false
    by_cases hlt : i < n
    · have hil : i < l.length := by rw [HL.out]; exact hlt
      obtain ⟨pb, po, Ah, ch, rfl, hx⟩ := (HR.out.below hbw.out (Nat.le_refl _)).2 i hil
      have hget : l[i]? = some l[i] := List.getElem?_eq_getElem hil
      obtain ⟨x, hxe⟩ : ∃ x, l[i] = x := ⟨_, rfl⟩
      rw [hxe] at hx hget
      have HXE := Lib.hid hxe
      have x0 := hx.c0
      have x1 := hx.c1
      have x2 := hx.c2
      have x3 := hx.c3
      have hpb := hx.lt
      have hTX : (mk x.r.t).size = x.r.t.length := rfl
      have i1 : (i : Int) < (n : Int) := by omega
      have i2 : (0 : Int) ≤ (i : Int) := by omega
      have HXX := Lib.hid hx
      have HGET := Lib.hid hget
      clear hget
      by_cases hlong : 60 < x.r.t.length
      · have F2 : decide (60 < ((mk x.r.t).size : Int)) = true := decide_eq_true (by omega)
        clear hx hTX HXE hxe
        generalize mk x.r.t = TX at *
        go_wp2_with fail
        go_ret
        exact ⟨rfl, hbw.out⟩
      have F2 : decide (60 < ((mk x.r.t).size : Int)) = false := decide_eq_false (by omega)
      by_cases hmany : 10 < x.hs.length
      · have F3 : decide (10 < (x.hs.length : Int)) = true := decide_eq_true (by omega)
        clear hx hTX HXE hxe
        generalize mk x.r.t = TX at *
        go_wp2_with fail
        go_ret
        exact ⟨rfl, hbw.out⟩
      have F3 : decide (10 < (x.hs.length : Int)) = false := decide_eq_false (by omega)
      obtain ⟨e1, e2⟩ := hli.out.step HTE.out x HGET.out
      have hfit := hli.out.fit HTE.out hbe haf hfi.out (by rw [HL.out]; exact hi) (by omega)
      have hfi2 : FitI l (i + 1) := fun j hj hji => by
        rcases (by omega : j < i ∨ j = i) with h | h
        · exact hfi.out j hj h
        · subst h
          rw [HXE.out]
          exact ⟨by omega, by omega, hx.i64⟩
      have HFI2 := Lib.hid hfi2
      have HFIT := Lib.hid hfit
      have HXI : Hid (I64 x.r.n ∧ x.r.t.length ≤ 60) := ⟨hx.i64, by omega⟩
      have hrcv : rcv x.r = .agg #[.int .i64 x.r.n, .int .i64 x.r.a, .string (mk x.r.t)] := rfl
      have hx1000 : x.hs.length ≤ 1000 := by omega
      have HADD : Hid (∀ W, Below wr.heap.size wr W → Calls Tryd.prog 10 #[.pointer (some ⟨p, 0, none⟩), .agg #[.int .i64 x.r.n, .int .i64 x.r.a, .string (mk x.r.t)], .slice Ah x.hs.length ch] W fun e w' => ∃ v hv', e = .returned v ∧ Own w' 9 1 v (add s x.r x.hs).1.length (lns (add s x.r x.hs).1) ∧ (∀ k, v.ownBlock = some k → W.heap.size ≤ k) ∧ Tr w' p (add s x.r x.hs).2 hv' ∧ (∀ k, hv'.ownBlock = some k → hv.ownBlock = some k ∨ W.heap.size ≤ k) ∧ Only (fun k => k = p ∨ hv.ownBlock = some k) W w') := fun W hb => by
        have := add_any s x.r x.hs Ah x.hs.length ch p hv W (htr.out.below hb (Nat.le_refl _)) (HTW.out.below' hb) (by have := HPB.out; omega) HXI.out rfl ((HXX.out.rd.below (hb.mono hbw.out.size)).more (Nat.le_trans hbw.out.size hb.size)) hx1000 HFIT.out.1 HFIT.out.2.1 HFIT.out.2.2.1 HFIT.out.2.2.2.1 HFIT.out.2.2.2.2.1 HFIT.out.2.2.2.2.2
        rw [hrcv] at this
        exact this
      have HREF := Lib.hid e1
      have HLI2 := Lib.hid e2
      have hlen2 := refL_len (tell := tell) (be := be) (af := af) HFI2.out (by rw [HL.out]; exact hlt) false
      have HTXT : Hid (∀ W, Below w.heap.size w W → ∀ j, j ≤ i → W.cell? ⟨pb, po + j * 4 + 2, none⟩ = some (.string (mk (rAt l j).t)) ∧ (mk (rAt l j).t).size ≤ 60) := fun W hb j hj => by
        have hjl : j < l.length := by rw [HL.out]; omega
        obtain ⟨pb2, po2, Ah2, ch2, e, h⟩ := (HR.out.below hb (Nat.le_refl _)).2 j hjl
        injection e with e
        injection e with q1 q2
        subst q1; subst q2
        rw [rAt_get l j hjl]
        exact ⟨h.c2, (HFI2.out j hjl (by omega)).2.1⟩
      clear hx hfit hrcv hlong hmany hTX HXE hxe e1 e2 hfi2
      obtain ⟨m, hm⟩ : ∃ m, x.hs.length = m := ⟨_, rfl⟩
      rw [hm] at x3 F3 HADD
      clear hm hx1000
      generalize mk x.r.t = TX at *
      obtain ⟨AR, hAR⟩ : ∃ X, add s x.r x.hs = X := ⟨_, rfl⟩
      rw [hAR] at HADD HREF HLI2
      clear hAR
      obtain ⟨LN, S2⟩ := AR
      simp only at HADD HREF HLI2
      obtain ⟨T0, hT0⟩ : ∃ X, refL tell be af l i false = X := ⟨_, rfl⟩
      rw [hT0] at hown hlen HREF
      obtain ⟨T1, hT1⟩ : ∃ X, refL tell be af l (i + 1) false = X := ⟨_, rfl⟩
      rw [hT1] at HREF hlen2
      have HT1E := Lib.hid hT1
      obtain ⟨lt, hlt'⟩ : ∃ X, T0.length = X := ⟨_, rfl⟩
      rw [hlt'] at hown hlen
      have HLT := Lib.hid hlt'
      have hln : LN.length ≤ 400 := by
        have := congrArg List.length HREF.out
        rw [List.length_append] at this
        omega
      clear hT0 hT1 hlt'
      obtain ⟨At, ct, rfl, -, -⟩ := hown.out.len_
      go_wp2_with fail
      have hpw : pb < wr.drew.heap.size := by have := hbw.out.size; have : wr.drew.heap.size = wr.heap.size := rfl; omega
      have HNS : Hid (¬ (pb = p ∨ hv.ownBlock = some pb)) := fun h => h.elim (fun e => by have := HPB.out; omega) (fun e => by have := hkv.out pb e; omega)
      refine region_tailo 13 (by kernel_rfl) (by kernel_rfl) (Only (fun k => k = p ∨ hv.ownBlock = some k))
        [.val (.slice At lt ct),
         .val (.pointer (some ⟨p, 0, none⟩)),
         .val (.slice (some ⟨pb, po, none⟩) n c),
         .val (.int .i64 (i : Int)),
         .val (.pointer (some ⟨pb, po + i * 4, none⟩)),
         .val (.pointer (some ⟨pb, po + i * 4, none⟩)),
         .val (.agg #[.int .i64 x.r.n, .int .i64 x.r.a, .string TX]),
         .val (.slice (some ⟨pb, po, none⟩) n c),
         .val (.int .i64 (i : Int)),
         .val (.pointer (some ⟨pb, po + i * 4, none⟩)),
         .val (.pointer (some ⟨pb, po + i * 4 + 3, none⟩)),
         .val (.slice Ah m ch),
         .any]
        (fun W => Only.refl _ W) (fun _ _ _ h k => h.trans k (fun _ _ h => h)) (by kernel_rfl) (⟨12, fun W => Below wr.drew.heap.size wr.drew W, fun v W => ∃ A4 c4 hv4, v = .slice A4 LN.length c4 ∧ Own W 9 1 v LN.length (lns LN) ∧ Tr W p S2 hv4 ∧ (∀ k, hv4.ownBlock = some k → hv.ownBlock = some k ∨ wr.heap.size ≤ k)⟩) (by show (12 : Nat) < 13; decide) (Below.refl _ _) (by kernel_rfl) ?_ ?_
      · refine ⟨?_, ?_, ?_, ?_, ?_, ?_, ?_, ?_, ?_, ?_, ?_, ?_, ?_, trivial⟩
        · intro ra RW hR hO hk hd K hK
          obtain ⟨e7, g7⟩ := hk 7 (.slice At lt ct) (by kernel_rfl) rfl
          clear hk hd
          have HR := Lib.hid hR
          clear hR
          have HO := Lib.hid hO
          clear hO
          go_simp
          exact hK _ _ (Only.refl _ _) rfl (fun h => absurd h (by show ¬ ((0 : Nat) = 12); decide)) (fun _ => ⟨id, fun _ => id⟩)
        · intro ra RW hR hO hk hd K hK
          obtain ⟨e5, g5⟩ := hk 5 (.pointer (some ⟨p, 0, none⟩)) (by kernel_rfl) rfl
          clear hk hd
          have HR := Lib.hid hR
          clear hR
          have HO := Lib.hid hO
          clear hO
          go_simp
          exact hK _ _ (Only.refl _ _) rfl (fun h => absurd h (by show ¬ ((1 : Nat) = 12); decide)) (fun _ => ⟨id, fun _ => id⟩)
        · intro ra RW hR hO hk hd K hK
          obtain ⟨e1, g1⟩ := hk 1 (.slice (some ⟨pb, po, none⟩) n c) (by kernel_rfl) rfl
          clear hk hd
          have HR := Lib.hid hR
          clear hR
          have HO := Lib.hid hO
          clear hO
          go_simp
          exact hK _ _ (Only.refl _ _) rfl (fun h => absurd h (by show ¬ ((2 : Nat) = 12); decide)) (fun _ => ⟨id, fun _ => id⟩)
        · intro ra RW hR hO hk hd K hK
          obtain ⟨e8, g8⟩ := hk 8 (.int .i64 (i : Int)) (by kernel_rfl) rfl
          clear hk hd
          have HR := Lib.hid hR
          clear hR
          have HO := Lib.hid hO
          clear hO
          go_simp
          exact hK _ _ (Only.refl _ _) rfl (fun h => absurd h (by show ¬ ((3 : Nat) = 12); decide)) (fun _ => ⟨id, fun _ => id⟩)
        · intro ra RW hR hO hk hd K hK
          obtain ⟨v98, e98, g98, f98⟩ := hd 2 98 (by kernel_rfl) rfl
          have f98 : v98 = .slice (some ⟨pb, po, none⟩) n c := f98
          subst f98
          obtain ⟨v99, e99, g99, f99⟩ := hd 3 99 (by kernel_rfl) rfl
          have f99 : v99 = .int .i64 (i : Int) := f99
          subst f99
          clear hk hd
          have HR := Lib.hid hR
          clear hR
          have HO := Lib.hid hO
          clear hO
          go_simp
          exact hK _ _ (Only.refl _ _) rfl (fun h => absurd h (by show ¬ ((4 : Nat) = 12); decide)) (fun _ => ⟨id, fun _ => id⟩)
        · intro ra RW hR hO hk hd K hK
          obtain ⟨v100, e100, g100, f100⟩ := hd 4 100 (by kernel_rfl) rfl
          have f100 : v100 = .pointer (some ⟨pb, po + i * 4, none⟩) := f100
          subst f100
          clear hk hd
          have HR := Lib.hid hR
          clear hR
          have HO := Lib.hid hO
          clear hO
          go_simp
          exact hK _ _ (Only.refl _ _) rfl (fun h => absurd h (by show ¬ ((5 : Nat) = 12); decide)) (fun _ => ⟨id, fun _ => id⟩)
        · intro ra RW hR hO hk hd K hK
          obtain ⟨v101, e101, g101, f101⟩ := hd 5 101 (by kernel_rfl) rfl
          have f101 : v101 = .pointer (some ⟨pb, po + i * 4, none⟩) := f101
          subst f101
          clear hk hd
          have HR := Lib.hid hR
          clear hR
          have HO := Lib.hid hO
          clear hO
          have dd0 := (HR.out.cell (p := ⟨pb, po + i * 4, none⟩) hpw HNS.out).trans x0
          have dd1 := (HR.out.cell (p := ⟨pb, po + i * 4 + 1, none⟩) hpw HNS.out).trans x1
          have dd2 := (HR.out.cell (p := ⟨pb, po + i * 4 + 2, none⟩) hpw HNS.out).trans x2
          go_simp
          exact hK _ _ (Only.refl _ _) rfl (fun h => absurd h (by show ¬ ((6 : Nat) = 12); decide)) (fun _ => ⟨id, fun _ => id⟩)
        · intro ra RW hR hO hk hd K hK
          obtain ⟨e1, g1⟩ := hk 1 (.slice (some ⟨pb, po, none⟩) n c) (by kernel_rfl) rfl
          clear hk hd
          have HR := Lib.hid hR
          clear hR
          have HO := Lib.hid hO
          clear hO
          go_simp
          exact hK _ _ (Only.refl _ _) rfl (fun h => absurd h (by show ¬ ((7 : Nat) = 12); decide)) (fun _ => ⟨id, fun _ => id⟩)
        · intro ra RW hR hO hk hd K hK
          obtain ⟨e8, g8⟩ := hk 8 (.int .i64 (i : Int)) (by kernel_rfl) rfl
          clear hk hd
          have HR := Lib.hid hR
          clear hR
          have HO := Lib.hid hO
          clear hO
          go_simp
          exact hK _ _ (Only.refl _ _) rfl (fun h => absurd h (by show ¬ ((8 : Nat) = 12); decide)) (fun _ => ⟨id, fun _ => id⟩)
        · intro ra RW hR hO hk hd K hK
          obtain ⟨v103, e103, g103, f103⟩ := hd 7 103 (by kernel_rfl) rfl
          have f103 : v103 = .slice (some ⟨pb, po, none⟩) n c := f103
          subst f103
          obtain ⟨v104, e104, g104, f104⟩ := hd 8 104 (by kernel_rfl) rfl
          have f104 : v104 = .int .i64 (i : Int) := f104
          subst f104
          clear hk hd
          have HR := Lib.hid hR
          clear hR
          have HO := Lib.hid hO
          clear hO
          go_simp
          exact hK _ _ (Only.refl _ _) rfl (fun h => absurd h (by show ¬ ((9 : Nat) = 12); decide)) (fun _ => ⟨id, fun _ => id⟩)
        · intro ra RW hR hO hk hd K hK
          obtain ⟨v105, e105, g105, f105⟩ := hd 9 105 (by kernel_rfl) rfl
          have f105 : v105 = .pointer (some ⟨pb, po + i * 4, none⟩) := f105
          subst f105
          clear hk hd
          have HR := Lib.hid hR
          clear hR
          have HO := Lib.hid hO
          clear hO
          go_simp
          exact hK _ _ (Only.refl _ _) rfl (fun h => absurd h (by show ¬ ((10 : Nat) = 12); decide)) (fun _ => ⟨id, fun _ => id⟩)
        · intro ra RW hR hO hk hd K hK
          obtain ⟨v106, e106, g106, f106⟩ := hd 10 106 (by kernel_rfl) rfl
          have f106 : v106 = .pointer (some ⟨pb, po + i * 4 + 3, none⟩) := f106
          subst f106
          clear hk hd
          have HR := Lib.hid hR
          clear hR
          have HO := Lib.hid hO
          clear hO
          have dd0 := (HR.out.cell (p := ⟨pb, po + i * 4 + 3, none⟩) hpw HNS.out).trans x3
          go_simp
          exact hK _ _ (Only.refl _ _) rfl (fun h => absurd h (by show ¬ ((11 : Nat) = 12); decide)) (fun _ => ⟨id, fun _ => id⟩)
        · intro ra RW hR hO hk hd K hK
          obtain ⟨v97, e97, g97, f97⟩ := hd 1 97 (by kernel_rfl) rfl
          have f97 : v97 = .pointer (some ⟨p, 0, none⟩) := f97
          subst f97
          obtain ⟨v102, e102, g102, f102⟩ := hd 6 102 (by kernel_rfl) rfl
          have f102 : v102 = .agg #[.int .i64 x.r.n, .int .i64 x.r.a, .string TX] := f102
          subst f102
          obtain ⟨v107, e107, g107, f107⟩ := hd 11 107 (by kernel_rfl) rfl
          have f107 : v107 = .slice Ah m ch := f107
          subst f107
          clear hk hd
          have HR := Lib.hid hR
          clear hR
          have HO := Lib.hid hO
          clear hO
          go_simp
          refine (HADD.out RW ((below_drewN (Below.refl wr.heap.size wr) 1).trans (HO.out rfl))).mono ?_
          rintro e4 w4 ⟨v4, hv4, rfl, hown4, hk4, htr4, hkv4, hon4⟩
          obtain ⟨A4, c4, rfl, -, -⟩ := hown4.len_
          have hsz4 : wr.heap.size ≤ RW.heap.size := (HO.out rfl).size
          exact hK _ _ hon4 trivial (fun _ => ⟨A4, c4, hv4, rfl, hown4, htr4, fun k hk => (hkv4 k hk).elim .inl (fun h => .inr (Nat.le_trans hsz4 h))⟩) (fun h => absurd rfl h)
      intro vs RW hR hPO hF
      have q0 : vs 0 = .slice At lt ct := hF 0 (by decide)
      have q1 : vs 1 = .pointer (some ⟨p, 0, none⟩) := hF 1 (by decide)
      have q2 : vs 2 = .slice (some ⟨pb, po, none⟩) n c := hF 2 (by decide)
      have q3 : vs 3 = .int .i64 (i : Int) := hF 3 (by decide)
      have q4 : vs 4 = .pointer (some ⟨pb, po + i * 4, none⟩) := hF 4 (by decide)
      have q5 : vs 5 = .pointer (some ⟨pb, po + i * 4, none⟩) := hF 5 (by decide)
      have q6 : vs 6 = .agg #[.int .i64 x.r.n, .int .i64 x.r.a, .string TX] := hF 6 (by decide)
      have q7 : vs 7 = .slice (some ⟨pb, po, none⟩) n c := hF 7 (by decide)
      have q8 : vs 8 = .int .i64 (i : Int) := hF 8 (by decide)
      have q9 : vs 9 = .pointer (some ⟨pb, po + i * 4, none⟩) := hF 9 (by decide)
      have q10 : vs 10 = .pointer (some ⟨pb, po + i * 4 + 3, none⟩) := hF 10 (by decide)
      have q11 : vs 11 = .slice Ah m ch := hF 11 (by decide)
      have F108 := Lib.hid (hF 12 (by decide))
      simp only [List.take_succ_cons, List.take_zero, List.drop_succ_cons, List.drop_zero, setAll, List.setIfInBounds_toArray, List.set_cons_zero, List.set_cons_succ, q0, q1, q2, q3, q4, q5, q6, q7, q8, q9, q10, q11]
      clear hF q0 q1 q2 q3 q4 q5 q6 q7 q8 q9 q10 q11
      generalize vs 12 = v108 at *
      clear vs

      have HTYP : Hid (∀ k, (Value.slice At lt ct).ownBlock = some k → k ≠ p ∧ hv.ownBlock ≠ some k ∧ k ≠ hb) := fun k hk => ⟨fun e => own_ne_blk' hown.out htr.out.1 (by decide) (hk.trans (congrArg some e)), own_ne_own hown.out htr.out.2 (by decide) hk, fun e => own_ne_blk' hown.out hbx.out (by decide) (hk.trans (congrArg some e))⟩
      have HHBT : Hid (hb ≠ p ∧ hv.ownBlock ≠ some hb) := ⟨hbx.out.ne_ htr.out.1 (by decide), own_ne_blk' htr.out.2 hbx.out (by decide)⟩
      have HOW4 := Lib.hid (hown.out.drew.only hR (fun k hk h => by obtain ⟨t1, t2, t3⟩ := HTYP.out k hk; exact h.elim t1 t2))
      have HBX4 := Lib.hid (hbx.out.drew.only hR (fun h => h.elim HHBT.out.1 HHBT.out.2))
      obtain ⟨A4, c4, hv4, e108, hown4, htr4, hkv4⟩ := hPO
      have e108 : v108 = .slice A4 LN.length c4 := e108
      have hown4 : Own RW 9 1 v108 LN.length (lns LN) := hown4
      subst e108
      have HRD4 := Lib.hid hown4.rd
      have HTR4 := Lib.hid htr4
      have HKV4 := Lib.hid hkv4
      have hb4 : Below w.heap.size w RW := (hbw.out.drew).trans (hR.below hbw.out.size (fun k hk => hk.elim (fun h => by have := HPB.out; omega) (fun h => hkv.out k h)))
      have HB4 := Lib.hid hb4
      clear hown4 htr4 hkv4 hb4 hR
      go_wp2_with (at_builtin; go_loud (refine wpList_append_rd _ rfl (.tmp 96) (.tmp 108) _ rfl 9 i0 _ 1 16 Tryd.underlying34 hi0 hz0 hz1 hz2 rfl (by omega) (.slice At lt ct) lt (lns T0) rfl (by exact HOW4.out) RW.heap.size A4 LN.length c4 (lns LN) rfl (by exact HRD4.out) (lns_one LN) (by simp only [maxLen]; omega) (by omega) _ rfl ?_; intro v5 w5 hown5 hgrow5 hat5))
      have hb5 : Below w.heap.size w w5 := ((Only.of_below HB4.out).grown hgrow5 (fun k hk _ => hok.out k hk)).below (Nat.le_refl _) (fun k h => h)
      have HK5 : Hid (∀ k, v5.ownBlock = some k → w.heap.size ≤ k) := fun k hk => by
        rcases hat5 with h | h
        · exact hok.out k (h.symm.trans hk)
        · rw [h] at hk; injection hk with hk; have := HB4.out.size; omega
      have HB5 := Lib.hid hb5
      have HTR5 := Lib.hid (HTR4.out.grown HOW4.out hgrow5)
      have HBX5 := Lib.hid (HBX4.out.grown hgrow5 (fun e => own_ne_blk' HOW4.out HBX4.out (by decide) e.symm))
      have HKV5 : Hid (∀ k, hv4.ownBlock = some k → w.heap.size ≤ k) := fun k hk => (HKV4.out k hk).elim (fun h => hkv.out k h) (fun h => Nat.le_trans hbw.out.size h)
      obtain ⟨l1, hl1⟩ : ∃ X, T1.length = X := ⟨_, rfl⟩
      have HOWN5 : Hid (Own w5 9 1 v5 l1 (lns T1)) := by
        show Own _ _ _ _ _ _
        rw [← hl1, HREF.out, lns_append, List.length_append, HLT.out]; exact hown5
      rw [hl1] at hlen2
      have HL1 := Lib.hid hl1
      have HTW5 := Lib.hid (HT.out.below' HB5.out)
      clear hb5 hown5 hgrow5 hat5 hl1
      clear x0 x1 x2 x3 hpw
      obtain ⟨A5, c5, rfl, -, -⟩ := HOWN5.out.len_
      go_wp2_with fail
      have HBX6 := Lib.hid HBX5.out.drew
      have h0 := HBX6.out.cell 0
      have h1 := HBX6.out.cell 1
      have h2 := HBX6.out.cell 2
      have hhw := HBX6.out.lt
      have HLIN : Hid (∀ W, Below w5.heap.size w5 W → Calls Tryd.prog 15 #[.int .i64 (tell : Int), .int .i64 (be : Int), .int .i64 (af : Int), .slice (some ⟨pb, po, none⟩) (i + 1) c, .bool false] W fun e w' => ∃ v, e = .returned (.tuple #[v, .bool (refB tell l (i + 1))]) ∧ Own w' 9 1 v l1 (lns T1) ∧ Below W.heap.size W w') := fun W hb => by
        have := lines_any tell be af HTE.out hbe haf l _ n c w.heap.size (i + 1) false W (HR.out.below (HB5.out.trans (hb.mono HB5.out.size)) (Nat.le_refl _)) (Nat.le_trans HB5.out.size hb.size) HFI2.out (by omega) hn
        rw [HT1E.out, HL1.out] at this
        exact this.mono fun e w' ⟨v, h1, h2, _, h3⟩ => ⟨v, h1, h2, h3⟩
      obtain ⟨BB, hBB⟩ : ∃ X, refB tell l (i + 1) = X := ⟨_, rfl⟩
      rw [hBB] at HLIN
      have HBB := Lib.hid hBB
      clear hBB
      have wr1 : IntKind.i64.wrap ((i : Int) + 1) = (i : Int) + 1 := IntWalk.i64_in _ ⟨by omega, by omega⟩
      have i3 : (0 : Int) ≤ (i : Int) + 1 := by omega
      have i4 : (i : Int) + 1 ≤ (c : Int) := by omega
      simp only [List.getElem?_toArray, List.getElem?_cons_succ, List.getElem?_cons_zero] at h0 h1 h2
      refine region_tail 15 (by kernel_rfl) (by kernel_rfl) (fun W W' => Below W.heap.size W W')
        [.val (.pointer (some ⟨hb, 0, none⟩)),
         .val (.int .i64 (tell : Int)),
         .val (.pointer (some ⟨hb, 1, none⟩)),
         .val (.int .i64 (be : Int)),
         .val (.pointer (some ⟨hb, 2, none⟩)),
         .val (.int .i64 (af : Int)),
         .val (.slice (some ⟨pb, po, none⟩) n c),
         .val (.int .i64 (i : Int)),
         .val (.int .i64 ((i : Int) + 1)),
         .val (.slice (some ⟨pb, po, none⟩) (i + 1) c),
         ⟨fun v W => ∃ A6 c6, v = .tuple #[.slice A6 l1 c6, .bool BB] ∧ Own W 9 1 (.slice A6 l1 c6) l1 (lns T1), fun v W W' ⟨A6, c6, e, ho⟩ hR => ⟨A6, c6, e, ho.below hR (fun k hk => ho.lt hk)⟩⟩,
         ⟨fun v W => ∃ A6 c6, v = .tuple #[.slice A6 l1 c6, .bool BB] ∧ Own W 9 1 (.slice A6 l1 c6) l1 (lns T1), fun v W W' ⟨A6, c6, e, ho⟩ hR => ⟨A6, c6, e, ho.below hR (fun k hk => ho.lt hk)⟩⟩,
         ⟨fun v W => ∃ A6 c6, v = .slice A6 l1 c6 ∧ Own W 9 1 (.slice A6 l1 c6) l1 (lns T1), fun v W W' ⟨A6, c6, e, ho⟩ hR => ⟨A6, c6, e, ho.below hR (fun k hk => ho.lt hk)⟩⟩,
         .val (.bool BB),
         ⟨fun v W => ∃ A6 c6, v = .slice A6 l1 c6 ∧ Own W 9 1 (.slice A6 l1 c6) l1 (lns T1), fun v W W' ⟨A6, c6, e, ho⟩ hR => ⟨A6, c6, e, ho.below hR (fun k hk => ho.lt hk)⟩⟩]
        (fun W => Below.refl _ W) (fun _ _ _ h k => below_trans h k) (by kernel_rfl) ?_ ?_
      · refine ⟨?_, ?_, ?_, ?_, ?_, ?_, ?_, ?_, ?_, ?_, ?_, ?_, ?_, ?_, ?_, trivial⟩
        · intro ra RW hR hk hd K hK
          obtain ⟨e2, g2⟩ := hk 2 (.pointer (some ⟨hb, 0, none⟩)) (by kernel_rfl) rfl
          clear hk hd
          have HR := Lib.hid hR
          clear hR
          go_simp
          exact hK _ _ (Below.refl _ _) rfl
        · intro ra RW hR hk hd K hK
          obtain ⟨v111, e111, g111, f111⟩ := hd 0 111 (by kernel_rfl) rfl
          have f111 : v111 = .pointer (some ⟨hb, 0, none⟩) := f111
          subst f111
          clear hk hd
          have HR := Lib.hid hR
          clear hR
          have dd0 := (HR.out.cell (p := ⟨hb, 0, none⟩) hhw).trans h0
          go_simp
          exact hK _ _ (Below.refl _ _) rfl
        · intro ra RW hR hk hd K hK
          obtain ⟨e2, g2⟩ := hk 2 (.pointer (some ⟨hb, 0, none⟩)) (by kernel_rfl) rfl
          clear hk hd
          have HR := Lib.hid hR
          clear hR
          go_simp
          exact hK _ _ (Below.refl _ _) rfl
        · intro ra RW hR hk hd K hK
          obtain ⟨v113, e113, g113, f113⟩ := hd 2 113 (by kernel_rfl) rfl
          have f113 : v113 = .pointer (some ⟨hb, 1, none⟩) := f113
          subst f113
          clear hk hd
          have HR := Lib.hid hR
          clear hR
          have dd0 := (HR.out.cell (p := ⟨hb, 1, none⟩) hhw).trans h1
          go_simp
          exact hK _ _ (Below.refl _ _) rfl
        · intro ra RW hR hk hd K hK
          obtain ⟨e2, g2⟩ := hk 2 (.pointer (some ⟨hb, 0, none⟩)) (by kernel_rfl) rfl
          clear hk hd
          have HR := Lib.hid hR
          clear hR
          go_simp
          exact hK _ _ (Below.refl _ _) rfl
        · intro ra RW hR hk hd K hK
          obtain ⟨v115, e115, g115, f115⟩ := hd 4 115 (by kernel_rfl) rfl
          have f115 : v115 = .pointer (some ⟨hb, 2, none⟩) := f115
          subst f115
          clear hk hd
          have HR := Lib.hid hR
          clear hR
          have dd0 := (HR.out.cell (p := ⟨hb, 2, none⟩) hhw).trans h2
          go_simp
          exact hK _ _ (Below.refl _ _) rfl
        · intro ra RW hR hk hd K hK
          obtain ⟨e1, g1⟩ := hk 1 (.slice (some ⟨pb, po, none⟩) n c) (by kernel_rfl) rfl
          clear hk hd
          have HR := Lib.hid hR
          clear hR
          go_simp
          exact hK _ _ (Below.refl _ _) rfl
        · intro ra RW hR hk hd K hK
          obtain ⟨e8, g8⟩ := hk 8 (.int .i64 (i : Int)) (by kernel_rfl) rfl
          clear hk hd
          have HR := Lib.hid hR
          clear hR
          go_simp
          exact hK _ _ (Below.refl _ _) rfl
        · intro ra RW hR hk hd K hK
          obtain ⟨v118, e118, g118, f118⟩ := hd 7 118 (by kernel_rfl) rfl
          have f118 : v118 = .int .i64 (i : Int) := f118
          subst f118
          clear hk hd
          have HR := Lib.hid hR
          clear hR
          go_simp
          exact hK _ _ (Below.refl _ _) rfl
        · intro ra RW hR hk hd K hK
          obtain ⟨v117, e117, g117, f117⟩ := hd 6 117 (by kernel_rfl) rfl
          have f117 : v117 = .slice (some ⟨pb, po, none⟩) n c := f117
          subst f117
          obtain ⟨v119, e119, g119, f119⟩ := hd 8 119 (by kernel_rfl) rfl
          have f119 : v119 = .int .i64 ((i : Int) + 1) := f119
          subst f119
          clear hk hd
          have HR := Lib.hid hR
          clear hR
          go_simp
          exact hK _ _ (Below.refl _ _) rfl
        · intro ra RW hR hk hd K hK
          obtain ⟨v112, e112, g112, f112⟩ := hd 1 112 (by kernel_rfl) rfl
          have f112 : v112 = .int .i64 (tell : Int) := f112
          subst f112
          obtain ⟨v114, e114, g114, f114⟩ := hd 3 114 (by kernel_rfl) rfl
          have f114 : v114 = .int .i64 (be : Int) := f114
          subst f114
          obtain ⟨v116, e116, g116, f116⟩ := hd 5 116 (by kernel_rfl) rfl
          have f116 : v116 = .int .i64 (af : Int) := f116
          subst f116
          obtain ⟨v120, e120, g120, f120⟩ := hd 9 120 (by kernel_rfl) rfl
          have f120 : v120 = .slice (some ⟨pb, po, none⟩) (i + 1) c := f120
          subst f120
          clear hk hd
          have HR := Lib.hid hR
          clear hR
          go_simp
          refine (HLIN.out RW ((below_drewN (Below.refl w5.heap.size w5) 1).trans HR.out)).mono ?_
          rintro e w2 ⟨v, rfl, ho, hb2⟩
          obtain ⟨A6, c6, rfl, -, -⟩ := ho.len_
          exact hK _ _ hb2 ⟨A6, c6, rfl, ho⟩
        · intro ra RW hR hk hd K hK
          obtain ⟨v121, e121, g121, f121⟩ := hd 10 121 (by kernel_rfl) rfl
          have F121 := Lib.hid f121
          clear f121
          clear hk hd
          have HR := Lib.hid hR
          clear hR
          go_simp
          exact hK _ _ (Below.refl _ _) F121.out
        · intro ra RW hR hk hd K hK
          obtain ⟨v110, e110, g110, f110⟩ := hd 11 110 (by kernel_rfl) rfl
          have F110 := Lib.hid f110
          clear f110
          clear hk hd
          have HR := Lib.hid hR
          clear hR
          obtain ⟨A6, c6, e6, ho6⟩ := F110.out
          subst e6
          have HO6 := Lib.hid ho6
          clear ho6
          go_simp
          exact hK _ _ (Below.refl _ _) ⟨A6, c6, rfl, HO6.out⟩
        · intro ra RW hR hk hd K hK
          obtain ⟨v110, e110, g110, f110⟩ := hd 11 110 (by kernel_rfl) rfl
          have F110 := Lib.hid f110
          clear f110
          clear hk hd
          have HR := Lib.hid hR
          clear hR
          obtain ⟨A6, c6, e6, ho6⟩ := F110.out
          subst e6
          clear ho6
          go_simp
          exact hK _ _ (Below.refl _ _) rfl
        · intro ra RW hR hk hd K hK
          obtain ⟨v122, e122, g122, f122⟩ := hd 12 122 (by kernel_rfl) rfl
          have F122 := Lib.hid f122
          clear f122
          clear hk hd
          have HR := Lib.hid hR
          clear hR
          go_simp
          exact hK _ _ (Below.refl _ _) F122.out
      intro vs RW hR hF
      have q0 : vs 0 = .pointer (some ⟨hb, 0, none⟩) := hF 0 (by decide)
      have q1 : vs 1 = .int .i64 (tell : Int) := hF 1 (by decide)
      have q2 : vs 2 = .pointer (some ⟨hb, 1, none⟩) := hF 2 (by decide)
      have q3 : vs 3 = .int .i64 (be : Int) := hF 3 (by decide)
      have q4 : vs 4 = .pointer (some ⟨hb, 2, none⟩) := hF 4 (by decide)
      have q5 : vs 5 = .int .i64 (af : Int) := hF 5 (by decide)
      have q6 : vs 6 = .slice (some ⟨pb, po, none⟩) n c := hF 6 (by decide)
      have q7 : vs 7 = .int .i64 (i : Int) := hF 7 (by decide)
      have q8 : vs 8 = .int .i64 ((i : Int) + 1) := hF 8 (by decide)
      have q9 : vs 9 = .slice (some ⟨pb, po, none⟩) (i + 1) c := hF 9 (by decide)
      have F121 := Lib.hid (hF 10 (by decide))
      have F110 := Lib.hid (hF 11 (by decide))
      have F122 := Lib.hid (hF 12 (by decide))
      have q13 : vs 13 = .bool BB := hF 13 (by decide)
      have F9 := Lib.hid (hF 14 (by decide))
      simp only [List.take_succ_cons, List.take_zero, List.drop_succ_cons, List.drop_zero, setAll, List.setIfInBounds_toArray, List.set_cons_zero, List.set_cons_succ, q0, q1, q2, q3, q4, q5, q6, q7, q8, q9, q13]
      clear hF q0 q1 q2 q3 q4 q5 q6 q7 q8 q9 q13
      generalize vs 10 = v121 at *
      generalize vs 11 = v110 at *
      generalize vs 12 = v122 at *
      generalize vs 14 = v9 at *
      clear vs

      obtain ⟨A6, c6, e9, how6⟩ := F9.out
      subst e9
      have HOW6 := Lib.hid how6
      have hrw : Below w5.heap.size w5 RW := (below_drewN (Below.refl w5.heap.size w5) 1).trans hR
      have HOW5R := Lib.hid (HOWN5.out.below hrw (fun kk hk => HOWN5.out.lt hk))
      have HTR5R := Lib.hid (HTR5.out.below hrw (Nat.le_refl _))
      have HBX5R := Lib.hid (HBX5.out.below hrw HBX5.out.lt)
      have HBR := Lib.hid (HB5.out.trans (hrw.mono HB5.out.size))
      obtain ⟨b0, b1, b2⟩ := box3 HBX5R.out
      have hfit2 := HLI2.out.fit HTE.out hbe haf HFI2.out (by rw [HL.out]; exact hlt) (by omega)
      have HFIT2 := Lib.hid hfit2
      have HHL := Lib.hid (HLI2.out.heldLe HTE.out)
      have hen := HLI2.out.enough HTE.out
      rw [HBB.out] at hen
      have HEN := Lib.hid hen
      clear how6 hR hrw h0 h1 h2 hfit2 hen wr1 i3 i4
      clear F9 F110 F121 F122
      go_wp2_with fail
      go_loopw [11, 12] (fun av kv wr2 => ∃ q a : Nat, kv = .int .i64 ((q : Int) - 1) ∧ q ≤ i + 1 ∧ av = .int .i64 a ∧ a ≤ 60 * (i + 1 - q) ∧ wr2 = RW ∧ Hid ((tell = 3 ∧ a = heldN (runR l q (i + 1 - q)) ∧ i + 1 - q ≤ be) ∨ (tell ≠ 3 ∧ a = 0 ∧ q = i + 1))) (fun _ kv _ => (intOf kv + 1).toNat)
      case atStart =>
        refine ⟨i + 1, 0, by go_num, by omega, rfl, by omega, rfl, ?_⟩
        by_cases h3 : tell = 3
        · exact .inl ⟨h3, by simp [runR, heldN], by omega⟩
        · exact .inr ⟨h3, rfl, rfl⟩
      case round =>
        obtain ⟨q, a, rfl, hq, rfl, ha, rfl, hcase⟩ := hrel
        by_cases h3 : tell = 3
        · have g1 : ((tell : Int) == 3) = true := by rw [beq_iff_eq]; omega
          have hq3 : a = heldN (runR l q (i + 1 - q)) ∧ i + 1 - q ≤ be := by
            rcases hcase.out with h | h
            · exact h.2
            · exact absurd h3 h.1
          have HQ3 := Lib.hid hq3
          have H3 := Lib.hid h3
          clear hq3 h3
          by_cases g2 : (i : Int) - (be : Int) < (q : Int) - 1
          · by_cases g3 : (0 : Int) ≤ (q : Int) - 1
            · obtain ⟨q', rfl⟩ : ∃ q', q = q' + 1 := ⟨q - 1, by omega⟩
              obtain ⟨t0, t1⟩ := HTXT.out _ HBR.out q' (by omega)
              have hst : heldN (runR l q' (i + 1 - q')) = a + (mk (rAt l q').t).size := by
                rw [show i + 1 - q' = (i + 1 - (q' + 1)) + 1 by omega]
                show (rAt l q').t.length + heldN (runR l (q' + 1) (i + 1 - (q' + 1))) = _
                rw [← HQ3.out.1, Nat.add_comm]; rfl
              have HSTP := Lib.hid hst
              have q1 : ((q' + 1 : Nat) : Int) - 1 = (q' : Int) := by omega
              have q2 : (q' : Int) < (n : Int) := by omega
              have q3 : (0 : Int) ≤ (q' : Int) := by omega
              rw [q1] at g2 g3 ⊢
              clear hst q1
              generalize mk (rAt l q').t = TQ at *
              go_wp2_with fail
              go_roundw
              case rel => exact ⟨q', a + TQ.size, by go_num, by omega, by go_num, by omega, trivial, .inl ⟨H3.out, HSTP.out.symm, by omega⟩⟩
              case measure => simp [intOf]
            · have HHB : Hid (heldN S2.held ≤ a) := by
                have := HHL.out
                unfold heldB at this
                rw [if_pos H3.out, show min be (i + 1) = i + 1 - q by omega, show i + 1 - (i + 1 - q) = q by omega, ← HQ3.out.1] at this
                exact this
              have HTX5 := Lib.hid (texts_own (c := c5) (c' := c6) HL1.out HOW5R.out.rd HOW6.out.rd (by omega))
              have HHE := Lib.hid (fun W h => held_any S2 p hv4 W h (fun x hx => (HFIT2.out.2.2.2.1 x hx).2) HFIT2.out.2.2.2.2.1)
              unfold pp at HHE
              obtain ⟨HN, hHN⟩ : ∃ X, heldN S2.held = X := ⟨_, rfl⟩
              rw [hHN] at HHE HHB
              clear hHN
              have g9 : ¬ ((a : Int) < (HN : Int)) := by have := HHB.out; omega
              cases BB
              all_goals
                go_wp2_with fail
                refine HTX5.out.mono ?_
                rintro e7 w7 ⟨rfl, q7, rfl⟩
                have HTR7 := Lib.hid (HTR5R.out.below (below_drewN (Below.refl _ _) q7) (Nat.le_refl _))
                have HNEU := Lib.hid (enough_any _ p S2 hv4 HTR7.out)
                rw [HEN.out] at HNEU
                unfold pp at HNEU
                go_wp2_with (first
                  | (go_at_call 14; go_loud (refine HNEU.out.mono ?_; rintro e8 w8 ⟨rfl, rfl⟩))
                  | (go_at_call 16; go_loud (refine (HHE.out _ HTR7.out).mono ?_; rintro e9 w9 ⟨rfl, hb9⟩; have HB9 := Lib.hid hb9; clear hb9)))
                have HW9 : Hid (Below wr.heap.size wr w9) := (below_drewN (Below.refl wr.heap.size wr) q7).trans HB9.out
                go_roundw
                case rel => exact ⟨i + 1, S2, hv4, by go_num, by omega, by show Own _ _ _ _ _ _; rw [HT1E.out, HL1.out]; exact HOW5R.out.below HW9.out (fun kk hk => HOW5R.out.lt hk), HK5.out, HLI2.out, HFI2.out, HTR5R.out.below HW9.out (Nat.le_refl _), HKV5.out, HBX5R.out.below HW9.out HBX5R.out.lt, HBR.out.trans (HW9.out.mono HBR.out.size)⟩
                case measure => simp [intOf]; omega
          · have HHB : Hid (heldN S2.held ≤ a) := by
              have := HHL.out
              have := HQ3.out.2
              unfold heldB at *
              rw [if_pos H3.out, show min be (i + 1) = i + 1 - q by omega, show i + 1 - (i + 1 - q) = q by omega, ← HQ3.out.1] at *
              assumption
            have HTX5 := Lib.hid (texts_own (c := c5) (c' := c6) HL1.out HOW5R.out.rd HOW6.out.rd (by omega))
            have HHE := Lib.hid (fun W h => held_any S2 p hv4 W h (fun x hx => (HFIT2.out.2.2.2.1 x hx).2) HFIT2.out.2.2.2.2.1)
            unfold pp at HHE
            obtain ⟨HN, hHN⟩ : ∃ X, heldN S2.held = X := ⟨_, rfl⟩
            rw [hHN] at HHE HHB
            clear hHN
            have g9 : ¬ ((a : Int) < (HN : Int)) := by have := HHB.out; omega
            cases BB
            all_goals
              go_wp2_with fail
              refine HTX5.out.mono ?_
              rintro e7 w7 ⟨rfl, q7, rfl⟩
              have HTR7 := Lib.hid (HTR5R.out.below (below_drewN (Below.refl _ _) q7) (Nat.le_refl _))
              have HNEU := Lib.hid (enough_any _ p S2 hv4 HTR7.out)
              rw [HEN.out] at HNEU
              unfold pp at HNEU
              go_wp2_with (first
                | (go_at_call 14; go_loud (refine HNEU.out.mono ?_; rintro e8 w8 ⟨rfl, rfl⟩))
                | (go_at_call 16; go_loud (refine (HHE.out _ HTR7.out).mono ?_; rintro e9 w9 ⟨rfl, hb9⟩; have HB9 := Lib.hid hb9; clear hb9)))
              have HW9 : Hid (Below wr.heap.size wr w9) := (below_drewN (Below.refl wr.heap.size wr) q7).trans HB9.out
              go_roundw
              case rel => exact ⟨i + 1, S2, hv4, by go_num, by omega, by show Own _ _ _ _ _ _; rw [HT1E.out, HL1.out]; exact HOW5R.out.below HW9.out (fun kk hk => HOW5R.out.lt hk), HK5.out, HLI2.out, HFI2.out, HTR5R.out.below HW9.out (Nat.le_refl _), HKV5.out, HBX5R.out.below HW9.out HBX5R.out.lt, HBR.out.trans (HW9.out.mono HBR.out.size)⟩
              case measure => simp [intOf]; omega
        · have g1 : ((tell : Int) == 3) = false := by rw [beq_eq_false_iff_ne]; omega
          have HHB : Hid (heldN S2.held ≤ a) := by
            have := HHL.out
            unfold heldB at this
            rw [if_neg h3] at this
            exact Nat.le_trans this (Nat.zero_le _)
          clear h3
          have HTX5 := Lib.hid (texts_own (c := c5) (c' := c6) HL1.out HOW5R.out.rd HOW6.out.rd (by omega))
          have HHE := Lib.hid (fun W h => held_any S2 p hv4 W h (fun x hx => (HFIT2.out.2.2.2.1 x hx).2) HFIT2.out.2.2.2.2.1)
          unfold pp at HHE
          obtain ⟨HN, hHN⟩ : ∃ X, heldN S2.held = X := ⟨_, rfl⟩
          rw [hHN] at HHE HHB
          clear hHN
          have g9 : ¬ ((a : Int) < (HN : Int)) := by have := HHB.out; omega
          cases BB
          all_goals
            go_wp2_with fail
            refine HTX5.out.mono ?_
            rintro e7 w7 ⟨rfl, q7, rfl⟩
            have HTR7 := Lib.hid (HTR5R.out.below (below_drewN (Below.refl _ _) q7) (Nat.le_refl _))
            have HNEU := Lib.hid (enough_any _ p S2 hv4 HTR7.out)
            rw [HEN.out] at HNEU
            unfold pp at HNEU
            go_wp2_with (first
              | (go_at_call 14; go_loud (refine HNEU.out.mono ?_; rintro e8 w8 ⟨rfl, rfl⟩))
              | (go_at_call 16; go_loud (refine (HHE.out _ HTR7.out).mono ?_; rintro e9 w9 ⟨rfl, hb9⟩; have HB9 := Lib.hid hb9; clear hb9)))
            have HW9 : Hid (Below wr.heap.size wr w9) := (below_drewN (Below.refl wr.heap.size wr) q7).trans HB9.out
            go_roundw
            case rel => exact ⟨i + 1, S2, hv4, by go_num, by omega, by show Own _ _ _ _ _ _; rw [HT1E.out, HL1.out]; exact HOW5R.out.below HW9.out (fun kk hk => HOW5R.out.lt hk), HK5.out, HLI2.out, HFI2.out, HTR5R.out.below HW9.out (Nat.le_refl _), HKV5.out, HBX5R.out.below HW9.out HBX5R.out.lt, HBR.out.trans (HW9.out.mono HBR.out.size)⟩
            case measure => simp [intOf]; omega
    · obtain rfl : i = n := by omega
      have hfit := hli.out.fit HTE.out hbe haf hfi.out (by rw [HL.out]; exact Nat.le_refl _) (by omega)
      have hE := end_any s p hv wr htr.out HTW.out (by have := HPB.out; omega) (by have := hfit.2.1; unfold I64; omega) (by have := hfit.2.2.1; unfold I64; omega)
      have e1 := hli.out.end_ HTE.out
      have hlen2 := refL_len (tell := tell) (be := be) (af := af) hfi.out (by rw [HL.out]; exact Nat.le_refl _) true
      have hen := hli.out.enough HTE.out
      have HLI1 := hli
      unfold pp at hE
      have HE := Lib.hid hE
      have hE2 : ∀ W, Tr W p (ended s) (.slice none 0 0) → Tb W → Calls Tryd.prog 13 #[.pointer (some ⟨p, 0, none⟩)] W fun e w' => e = .returned (.slice none 0 0) ∧ Tr w' p (ended s) (.slice none 0 0) ∧ Only (fun k => k = p) W w' := fun W h hT => end_none (ended s) p _ W h (.inl rfl)
      have HE2 := Lib.hid hE2
      have HAD : Hid (∀ W A n c, Tr W p (ended s) (.slice none 0 0) → Calls Tryd.prog 10 #[.pointer (some ⟨p, 0, none⟩), .agg #[.int .i64 0, .int .i64 0, .string ⟨#[]⟩], .slice A n c] W fun e w' => e = .returned (.slice none 0 0) ∧ Tr w' p (ended s) (.slice none 0 0) ∧ Below W.heap.size W w') := fun W A n c h => add_over (ended s) ⟨0, 0, []⟩ A n c p _ W h rfl
      have HHE : Hid (∀ W, Tr W p (ended s) (.slice none 0 0) → Calls Tryd.prog 16 #[.pointer (some ⟨p, 0, none⟩)] W fun e w' => e = .returned (.int .i64 0) ∧ Below W.heap.size W w') := fun W h => held_any (ended s) p _ W h (fun x hx => by cases hx) (by simp [ended])
      have HEN : Hid (∀ W, Tr W p (ended s) (.slice none 0 0) → Calls Tryd.prog 14 #[.pointer (some ⟨p, 0, none⟩)] W fun e w' => e = .returned (.bool (refB tell l i)) ∧ w' = W) := fun W h => by
        have := enough_any W p (ended s) _ h
        rw [show (ended s).enough = s.enough from rfl, hen] at this
        exact this
      obtain ⟨BB, hBB⟩ : ∃ X, refB tell l i = X := ⟨_, rfl⟩
      have HBB := Lib.hid hBB
      rw [hBB] at HEN
      clear hE hE2 hfit hen hBB
      obtain ⟨T0, hT0⟩ : ∃ X, refL tell be af l i false = X := ⟨_, rfl⟩
      rw [hT0] at hown hlen e1
      obtain ⟨T1, hT1⟩ : ∃ X, refL tell be af l i true = X := ⟨_, rfl⟩
      rw [hT1] at e1 hlen2
      have HREF := Lib.hid e1
      have HT1E := Lib.hid hT1
      obtain ⟨lt, hlt'⟩ : ∃ X, T0.length = X := ⟨_, rfl⟩
      rw [hlt'] at hown hlen
      have HLT := Lib.hid hlt'
      obtain ⟨LN, hLN⟩ : ∃ X, endL s = X := ⟨_, rfl⟩
      rw [hLN] at HE HREF
      have hln : LN.length ≤ 400 := by
        have := congrArg List.length HREF.out
        rw [List.length_append] at this
        omega
      obtain ⟨l1, hl1⟩ : ∃ X, T1.length = X := ⟨_, rfl⟩
      rw [hl1] at hlen2
      have HL1 := Lib.hid hl1
      have HLIN : Hid (∀ W, Below w.heap.size w W → Calls Tryd.prog 15 #[.int .i64 (tell : Int), .int .i64 (be : Int), .int .i64 (af : Int), .slice A i c, .bool true] W fun e w' => ∃ v, e = .returned (.tuple #[v, .bool BB]) ∧ Own w' 9 1 v l1 (lns T1) ∧ Below W.heap.size W w') := fun W hb => by
        have := lines_any tell be af HTE.out hbe haf l A i c w.heap.size i true W (HR.out.below hb (Nat.le_refl _)) hb.size hfi.out (by omega) hn
        rw [HT1E.out, HL1.out, HBB.out] at this
        exact this.mono fun e w' ⟨v, h1, h2, _, h3⟩ => ⟨v, h1, h2, h3⟩
      clear hT0 hT1 hlt' hLN hl1 e1
      obtain ⟨At, ct, rfl, -, -⟩ := hown.out.len_
      have HTYP : Hid (∀ k, (Value.slice At lt ct).ownBlock = some k → k ≠ p) := fun k hk e => own_ne_blk' hown.out htr.out.1 (by decide) (hk.trans (congrArg some e))
      have HHBT : Hid (hb ≠ p) := hbx.out.ne_ htr.out.1 (by decide)
      go_wp2_with (first
        | (go_at_call 13; go_loud (refine HE.out.mono ?_; rintro e4 w4 ⟨v4, rfl, hown4, hk4, htr4, hon4⟩; obtain ⟨A4, c4, rfl, -, -⟩ := hown4.len_; have HRD4 := Lib.hid hown4.rd; have HTR4 := Lib.hid htr4; have HON4 := Lib.hid hon4; have HOW4 := Lib.hid (hown.out.only hon4 (fun k hk h => HTYP.out k hk h)); have HBX4 := Lib.hid (hbx.out.only hon4 (fun h => HHBT.out h)); clear hown4 hk4 htr4 hon4))
        | (at_builtin; go_loud (refine wpList_append_rd _ rfl (.tmp 167) (.tmp 169) _ rfl 9 i0 _ 1 16 Tryd.underlying34 hi0 hz0 hz1 hz2 rfl (by omega) (.slice At lt ct) lt (lns T0) rfl (by exact HOW4.out) w4.heap.size A4 LN.length c4 (lns LN) rfl (by exact HRD4.out) (lns_one LN) (by simp only [maxLen]; omega) (by omega) _ rfl ?_; intro v5 w5 hown5 hgrow5 hat5; have hb4 : Below w.heap.size w w4 := hbw.out.trans (HON4.out.below hbw.out.size (fun k hk => by have := HPB.out; omega)); have HB5 := Lib.hid (((Only.of_below hb4).grown hgrow5 (fun k hk _ => hok.out k hk)).below (Nat.le_refl _) (fun k h => h)); have HTR5 := Lib.hid (HTR4.out.grown HOW4.out hgrow5); have HBX5 := Lib.hid (HBX4.out.grown hgrow5 (fun e => own_ne_blk' HOW4.out HBX4.out (by decide) e.symm)); obtain ⟨b0, b1, b2⟩ := box3 HBX5.out; have HOWN5 : Hid (Own w5 9 1 v5 l1 (lns T1)) := (by show Own _ _ _ _ _ _; rw [← HL1.out, HREF.out, lns_append, List.length_append, HLT.out]; exact hown5); obtain ⟨A5, c5, rfl, -, -⟩ := HOWN5.out.len_; clear hown5 hgrow5 hat5 hb4))
        | (go_at_call 15; go_loud (refine (HLIN.out _ HB5.out).mono ?_; rintro e6 w6 ⟨v6, rfl, hown6, hb6⟩; obtain ⟨A6, c6, rfl, -, -⟩ := hown6.len_; have HTX := Lib.hid (texts_own (c := c5) (c' := c6) HL1.out (HOWN5.out.below hb6 (fun kk hk => HOWN5.out.lt hk)).rd hown6.rd (by omega)); have HTR6 := Lib.hid (HTR5.out.below hb6 (Nat.le_refl _)); have HB6 := Lib.hid (HB5.out.trans (hb6.mono HB5.out.size)); clear hown6 hb6))
        | (go_at_call 12; go_loud (refine HTX.out.mono ?_; rintro e7 w7 ⟨rfl, q7, hw7⟩; have HB7 : Hid (Below w.heap.size w w7) := (by show Below _ _ _; rw [hw7]; exact HB6.out.trans (below_drewN (Below.refl _ _) q7)); have HTR7 : Hid (Tr w7 p (ended s) (.slice none 0 0)) := (by show Tr _ _ _ _; rw [hw7]; exact HTR6.out.below (below_drewN (Below.refl _ _) q7) (Nat.le_refl _)); clear hw7)))
      refine (HEN.out _ HTR7.out).mono ?_
      rintro e8 w8 ⟨rfl, rfl⟩
      go_wp2_with fail
      refine (HE2.out w8 HTR7.out (HT.out.below' HB7.out)).mono ?_
      rintro e9 w9 ⟨rfl, htr9, hon9⟩
      have HTR9 := Lib.hid htr9
      have HB9 := Lib.hid (HB7.out.trans (hon9.below HB7.out.size (fun k hk => by have := HPB.out; omega)))
      have HTA := Lib.hid (fun o => HTR9.out.alloc o)
      have HBA := Lib.hid (fun o => below_al (Below.refl _ w9) o)
      clear htr9 hon9
      go_wp2_with (first
        | (go_at_call 10; go_loud (refine (HAD.out _ _ _ _ (HTA.out _)).mono ?_; rintro e10 w10 ⟨rfl, htr10, hb10⟩; have HTR10 := Lib.hid htr10; have HB10 := Lib.hid (HB9.out.trans ((below_trans (HBA.out _) hb10).mono HB9.out.size)); clear htr10 hb10))
        | (go_at_call 16; go_loud (refine (HHE.out _ HTR10.out).mono ?_; rintro e11 w11 ⟨rfl, hb11⟩; have HB11 := Lib.hid (HB10.out.trans (hb11.mono HB10.out.size)); clear hb11)))
      go_ret
      exact ⟨rfl, HB11.out⟩
theorem lines_law (x y z : Int) (l : List Rw) (A : Option Addr) (n c : Nat) (w : World) (hT : Tb w) (hr : Rws w w.heap.size A n l) (hnc : n ≤ c) :
    Calls Tryd.prog 6 #[.agg #[.int .i64 x, .int .i64 y, .int .i64 z], .slice A n c] w fun e w' => e = .returned (.bool true) ∧ Below w.heap.size w w' := by
  by_cases h30 : 30 < n
  · exact lines_big x y z A n c w hT h30
  · by_cases hbad : x < 0 ∨ 3 < x ∨ y < 0 ∨ 16 < y ∨ z < 0 ∨ 16 < z
    · exact lines_bad x y z A n c w hT h30 hbad
    · obtain ⟨t, rfl⟩ : ∃ t : Nat, x = t := ⟨x.toNat, by omega⟩
      obtain ⟨b, rfl⟩ : ∃ t : Nat, y = t := ⟨y.toNat, by omega⟩
      obtain ⟨a, rfl⟩ : ∃ t : Nat, z = t := ⟨z.toNat, by omega⟩
      exact lines_good t b a (by omega) (by omega) (by omega) l A n c w hT hr hnc (by omega)
end Go.Proofs.YtbgmdjceecbbhaaDoor
