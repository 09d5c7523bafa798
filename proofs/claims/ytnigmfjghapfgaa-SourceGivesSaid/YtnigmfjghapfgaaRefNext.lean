/-
  The contract of the function Next of the document's source; no condition beyond those that each theorem states.
-/
import Derived.Test.YtnigmfjghapfgaaRefSrc
namespace Go.Proofs.Ytnigmfjghapfgaa
open Go.RowKit Go.Rb
attribute [local irreducible] Go.wpQuiet

theorem RefA.c0 {w : World} {S : Nat → Prop} {r g k : Nat} {ev : Value} {SB : ByteArray} {fl : Int} {ps : List (List UInt8)} (h : RefA w S r ev SB g fl ps k) : w.cell? ⟨r, 0, none⟩ = some (.string SB) ∧ w.cell? ⟨r, 1, none⟩ = some (.int .i64 (g : Int)) ∧ w.cell? ⟨r, 2, none⟩ = some (.int .i64 fl) ∧ w.cell? ⟨r, 3, none⟩ = some ev :=
  ⟨by rw [h.tb.cell]; rfl, by rw [h.tb.cell]; rfl, by rw [h.tb.cell]; rfl, by rw [h.tb.cell]; rfl⟩
set_option maxHeartbeats 2000000 in
theorem rnext_arg {S : Nat → Prop} {r g : Nat} {SB : ByteArray} {fl : Int} {ps : List (List UInt8)} (m : Int) (w : World) (hR : RefS w S r SB g fl ps) (hm : m < 1) :
    Calls Try.prog 11 #[pp r, .int .i64 m] w fun e w' => e = .returned (.tuple #[.string ⟨#[]⟩, .int .i64 2]) ∧ ∃ q, w' = w.drewN q := by
  clear hR
  unfold pp
  go_enter Try.func11, Try.ntmps11
  go_wp2
  go_ret2
  exact ⟨rfl, 0, rfl⟩
set_option maxHeartbeats 2000000 in
theorem rnext_fail {S : Nat → Prop} {r g : Nat} {SB : ByteArray} {fl : Int} {ps : List (List UInt8)} (m : Int) (w : World) (hR : RefS w S r SB g fl ps) (hm : 1 ≤ m) (h1 : 0 ≤ fl) (h2 : fl ≤ g) :
    Calls Try.prog 11 #[pp r, .int .i64 m] w fun e w' => e = .returned (.tuple #[.string ⟨#[]⟩, .int .i64 11]) ∧ ∃ q, w' = w.drewN q := by
  obtain ⟨ev, h⟩ := hR
  obtain ⟨-, c1, c2, -⟩ := h.c0
  clear h
  have i1 : ¬ m < 1 := by omega
  have b1 : decide (0 ≤ fl) = true := by simpa using h1
  have b2 : decide (fl ≤ (g : Int)) = true := by simpa using h2
  unfold pp
  go_enter Try.func11, Try.ntmps11
  go_wp2
  go_quiet (fail)
  go_wp2
  go_ret2
  exact ⟨rfl, _, rfl⟩
set_option maxHeartbeats 2000000 in
theorem rnext_none {S : Nat → Prop} {r g : Nat} {SB : ByteArray} {fl : Int} {ps : List (List UInt8)} (m : Int) (w : World) (hR : RefS w S r SB g fl ps) (hm : 1 ≤ m) (h1 : ¬ (0 ≤ fl ∧ fl ≤ g)) (h2 : SB.size = g) :
    Calls Try.prog 11 #[pp r, .int .i64 m] w fun e w' => e = .returned (.tuple #[.string ⟨#[]⟩, .int .i64 19]) ∧ ∃ q, w' = w.drewN q := by
  obtain ⟨ev, h⟩ := hR
  obtain ⟨c0, c1, c2, -⟩ := h.c0
  clear h
  have i1 : ¬ m < 1 := by omega
  unfold pp
  by_cases hf : 0 ≤ fl
  · have b1 : decide (0 ≤ fl) = true := by simpa using hf
    have b2 : decide (fl ≤ (g : Int)) = false := by simp; omega
    have i2 : ¬ fl ≤ (g : Int) := by omega
    clear h1
    go_enter Try.func11, Try.ntmps11
    go_wp2
    go_quiet (fail)
    go_wp2
    go_quiet (fail)
    go_wp2
    go_ret2
    exact ⟨rfl, _, by rw [World.drewN_drewN]⟩
  · have b1 : decide (0 ≤ fl) = false := by simpa using hf
    clear h1
    go_enter Try.func11, Try.ntmps11
    go_wp2
    go_quiet (fail)
    go_wp2
    go_quiet (fail)
    go_wp2
    go_ret2
    exact ⟨rfl, _, by rw [World.drewN_drewN]⟩

set_option maxRecDepth 20000 in
set_option maxHeartbeats 8000000 in
theorem rnext_ok_neg {S : Nat → Prop} {r g : Nat} {SB : ByteArray} {fl : Int} {ps : List (List UInt8)} {bs : List UInt8} (m : Int) (w : World) (hR : RefS w S r SB g fl ps) (hSB : SB = ⟨bs.toArray⟩) (hbs : ps.flatten = bs) (P E : Nat) (hP : P < ps.length) (hE : endA ps (P + 1) = E) (hg1 : endA ps P ≤ g) (hg2 : g < E) (hm : 1 ≤ m) (h1 : fl < 0) (hbl : bs.length ≤ 1000) (hpl : ps.length ≤ 1000) (nn : Nat) (hnn : nn = min m.toNat (E - g)) :
    Calls Try.prog 11 #[pp r, .int .i64 m] w fun e w' => e = .returned (.tuple #[.string ⟨((bs.drop g).take nn).toArray⟩, .int .i64 0]) ∧ Only S w w' ∧ RefS w' S r SB (g + nn) fl ps := by
  obtain ⟨ev, h⟩ := hR
  obtain ⟨A, c, rfl, -, -⟩ := h.eo.len_
  obtain ⟨c0, c1, c2, c3⟩ := h.c0
  have hEb : E ≤ bs.length := by rw [← hE, ← hbs]; exact endA_le ps _
  have HSB : Hid (SB.data.toList = bs) := by show _ = _; rw [hSB]
  have hsz : SB.size = bs.length := by rw [hSB]; rfl
  obtain ⟨N, hN⟩ : ∃ N, bs.length = N := ⟨_, rfl⟩
  rw [hN] at hsz hbl hEb
  have HR := Lib.hid h
  have HE := Lib.hid hE
  have HG1 := Lib.hid hg1
  have HP : Hid (P < ps.length) := hP
  have hzb : ((g : Int) == (N : Int)) = false := by rw [beq_eq_false_iff_ne]; omega
  have i1 : ¬ m < 1 := by omega
  clear h hN hSB hbs hE hg1
  generalize hK : ps.length = K at *
  have HK := Lib.hid hK
  clear hK
  have b1 : decide (0 ≤ fl) = false := by simp; omega
  have b3 : ¬ 0 ≤ fl := by omega
  unfold pp
  go_enter Try.func11, Try.ntmps11
  go_wp2
  go_quiet (fail)
  have HWA : Hid (RefA (w.drewN nq) S r (.slice A K c) SB g fl ps K) := HR.out.frame (T := NoT) ((Only.refl _ _).drewN nq) (fun _ _ h => h)
  have HOWA : Hid (Only S w (w.drewN nq)) := (Only.refl S w).drewN nq
  have f0 : (w.drewN nq).cell? ⟨r, 0, none⟩ = _ := c0
  have f1 : (w.drewN nq).cell? ⟨r, 1, none⟩ = _ := c1
  have f2 : (w.drewN nq).cell? ⟨r, 2, none⟩ = _ := c2
  have f3 : (w.drewN nq).cell? ⟨r, 3, none⟩ = _ := c3
  clear c0 c1 c2 c3
  generalize w.drewN nq = wa at *
  go_wp2
  go_quiet (fail)
  have HWB : Hid (RefA (wa.drewN nq) S r (.slice A K c) SB g fl ps K) := HWA.out.frame (T := NoT) ((Only.refl _ _).drewN nq) (fun _ _ h => h)
  have HOWB : Hid (Only S w (wa.drewN nq)) := HOWA.out.drewN nq
  have k0 : (wa.drewN nq).cell? ⟨r, 0, none⟩ = _ := f0
  have k1 : (wa.drewN nq).cell? ⟨r, 1, none⟩ = _ := f1
  have k2 : (wa.drewN nq).cell? ⟨r, 2, none⟩ = _ := f2
  have k3 : (wa.drewN nq).cell? ⟨r, 3, none⟩ = _ := f3
  clear f0 f1 f2 f3
  generalize wa.drewN nq = wb at *
  go_wp2
  go_loopw [6, 7] (fun t i wr => ∃ j : Nat, j ≤ P + 1 ∧ i = .int .i64 j ∧ t = .int .i64 (endA ps j : Nat) ∧ wb = wr) (fun _ i _ => P + 1 - (intOf i).toNat)
  case atStart => exact ⟨0, by omega, rfl, rfl, rfl⟩
  case round =>
    obtain ⟨j, hj, rfl, rfl, rfl⟩ := hrel
    by_cases hlt : j ≤ P
    · have i5 : (endA ps j : Int) ≤ (g : Int) := by have := endA_mono ps hlt; have := HG1.out; omega
      obtain ⟨ge, oe, ce, hv, -, -, -, hce, -⟩ := HWB.out.eo.form (by omega)
      simp only [Value.slice.injEq, true_and] at hv
      obtain ⟨rfl, rfl⟩ := hv
      have cej := hce j (by omega)
      have hgj : (endsL ps K)[j]? = some ((endA ps (j + 1) : Nat) : Int) := by
        unfold endsL
        rw [List.getElem?_map, List.getElem?_range (by omega)]; rfl
      rw [List.getElem?_map, hgj] at cej
      simp only [Option.map_some, iV] at cej
      have i6 : (j : Int) < (K : Int) := by omega
      clear hce hgj
      generalize hE1 : endA ps (j + 1) = E1 at *
      have HE1 := Lib.hid hE1
      clear hE1
      go_wp2
      go_roundw
      case rel => exact ⟨j + 1, by omega, by go_num, by rw [HE1.out], by first | rfl | trivial⟩
      case measure => simp [intOf]; omega
    · obtain rfl : j = P + 1 := by omega
      rw [HE.out]
      have i5 : ¬ (E : Int) ≤ (g : Int) := by omega
      by_cases hb : (m : Int) < (E : Int) - (g : Int)
      · obtain ⟨t1, ht1⟩ : ∃ t1 : Nat, (g : Int) + m = (t1 : Int) := ⟨(g + m).toNat, by omega⟩
        obtain rfl : nn = t1 - g := by omega
        obtain ⟨t2, ht2⟩ : ∃ t2, t2 = t1 := ⟨_, rfl⟩
        subst ht2
        have ht3 : g ≤ t2 ∧ t2 ≤ N := by omega
        clear hnn
        have HX : Hid (SB.extract g t2 = ⟨((bs.drop g).take (t2 - g)).toArray⟩) := ba_eq _ _ (by rw [ba_extract, HSB.out])
        have i7 : (g : Int) ≤ (t2 : Int) := by omega
        have i8 : (t2 : Int) ≤ (N : Int) := by omega
        go_wp2_with fail
        go_quiet (fail)
        have HWC : Hid (RefA (wb.drewN nq) S r (.slice A K c) SB g fl ps K) := HWB.out.frame (T := NoT) ((Only.refl _ _).drewN nq) (fun _ _ h => h)
        have HOC : Hid (Only S w (wb.drewN nq)) := HOWB.out.drewN nq
        have l1 : (wb.drewN nq).cell? ⟨r, 1, none⟩ = some (.int .i64 (g : Int)) := k1
        have l2 := HWC.out.tb.frozen
        clear k0 k1 k2 k3 HWA HWB HOWA HOWB
        generalize wb.drewN nq = wc at *
        go_wp2
        go_ret2
        have hgt : g + (t2 - g) = t2 := by omega
        rw [hgt]
        refine ⟨by rw [HX.out]; rfl, HOC.out.setCell (p := ⟨r, 1, none⟩) (fun _ => HWC.out.sr) _, .slice A K c, ?_, ?_, HWC.out.sr, HWC.out.se, fun q hq => by simpa [World.setCell] using HWC.out.lt q hq⟩
        · have := HWC.out.tb.set_ 1 (.int .i64 (t2 : Int))
          simpa using this
        · rw [HK.out]; exact HWC.out.eo.setCell (p := ⟨r, 1, none⟩) (own_ne_blk HWC.out.eo HWC.out.tb (by decide)) _
      · obtain ⟨t1, rfl⟩ : ∃ t1, t1 = E := ⟨_, rfl⟩
        obtain rfl : nn = t1 - g := by omega
        obtain ⟨t2, ht2⟩ : ∃ t2, t2 = t1 := ⟨_, rfl⟩
        subst ht2
        have ht3 : g ≤ t2 ∧ t2 ≤ N := by omega
        clear hnn
        have HX : Hid (SB.extract g t2 = ⟨((bs.drop g).take (t2 - g)).toArray⟩) := ba_eq _ _ (by rw [ba_extract, HSB.out])
        have i7 : (g : Int) ≤ (t2 : Int) := by omega
        have i8 : (t2 : Int) ≤ (N : Int) := by omega
        go_wp2_with fail
        go_quiet (fail)
        have HWC : Hid (RefA (wb.drewN nq) S r (.slice A K c) SB g fl ps K) := HWB.out.frame (T := NoT) ((Only.refl _ _).drewN nq) (fun _ _ h => h)
        have HOC : Hid (Only S w (wb.drewN nq)) := HOWB.out.drewN nq
        have l1 : (wb.drewN nq).cell? ⟨r, 1, none⟩ = some (.int .i64 (g : Int)) := k1
        have l2 := HWC.out.tb.frozen
        clear k0 k1 k2 k3 HWA HWB HOWA HOWB
        generalize wb.drewN nq = wc at *
        go_wp2
        go_ret2
        have hgt : g + (t2 - g) = t2 := by omega
        rw [hgt]
        refine ⟨by rw [HX.out]; rfl, HOC.out.setCell (p := ⟨r, 1, none⟩) (fun _ => HWC.out.sr) _, .slice A K c, ?_, ?_, HWC.out.sr, HWC.out.se, fun q hq => by simpa [World.setCell] using HWC.out.lt q hq⟩
        · have := HWC.out.tb.set_ 1 (.int .i64 (t2 : Int))
          simpa using this
        · rw [HK.out]; exact HWC.out.eo.setCell (p := ⟨r, 1, none⟩) (own_ne_blk HWC.out.eo HWC.out.tb (by decide)) _

set_option maxRecDepth 20000 in
set_option maxHeartbeats 8000000 in
theorem rnext_ok_pos {S : Nat → Prop} {r g : Nat} {SB : ByteArray} {f : Nat} {ps : List (List UInt8)} {bs : List UInt8} (m : Int) (w : World) (hR : RefS w S r SB g (f : Int) ps) (hSB : SB = ⟨bs.toArray⟩) (hbs : ps.flatten = bs) (P E : Nat) (hP : P < ps.length) (hE : endA ps (P + 1) = E) (hg1 : endA ps P ≤ g) (hg2 : g < E) (hm : 1 ≤ m) (h1 : g < f) (hbl : bs.length ≤ 1000) (hpl : ps.length ≤ 1000) (nn : Nat) (hnn : nn = min (min m.toNat (E - g)) (f - g)) :
    Calls Try.prog 11 #[pp r, .int .i64 m] w fun e w' => e = .returned (.tuple #[.string ⟨((bs.drop g).take nn).toArray⟩, .int .i64 0]) ∧ Only S w w' ∧ RefS w' S r SB (g + nn) (f : Int) ps := by
  obtain ⟨ev, h⟩ := hR
  obtain ⟨A, c, rfl, -, -⟩ := h.eo.len_
  obtain ⟨c0, c1, c2, c3⟩ := h.c0
  have hEb : E ≤ bs.length := by rw [← hE, ← hbs]; exact endA_le ps _
  have HSB : Hid (SB.data.toList = bs) := by show _ = _; rw [hSB]
  have hsz : SB.size = bs.length := by rw [hSB]; rfl
  obtain ⟨N, hN⟩ : ∃ N, bs.length = N := ⟨_, rfl⟩
  rw [hN] at hsz hbl hEb
  have HR := Lib.hid h
  have HE := Lib.hid hE
  have HG1 := Lib.hid hg1
  have HP : Hid (P < ps.length) := hP
  have hzb : ((g : Int) == (N : Int)) = false := by rw [beq_eq_false_iff_ne]; omega
  have i1 : ¬ m < 1 := by omega
  clear h hN hSB hbs hE hg1
  generalize hK : ps.length = K at *
  have HK := Lib.hid hK
  clear hK
  have b1 : decide ((0 : Int) ≤ (f : Int)) = true := by simp
  have b2 : decide ((f : Int) ≤ (g : Int)) = false := by simp; omega
  have b4 : ¬ (f : Int) ≤ (g : Int) := by omega
  unfold pp
  go_enter Try.func11, Try.ntmps11
  go_wp2
  go_quiet (fail)
  have HWA : Hid (RefA (w.drewN nq) S r (.slice A K c) SB g (f : Int) ps K) := HR.out.frame (T := NoT) ((Only.refl _ _).drewN nq) (fun _ _ h => h)
  have HOWA : Hid (Only S w (w.drewN nq)) := (Only.refl S w).drewN nq
  have f0 : (w.drewN nq).cell? ⟨r, 0, none⟩ = _ := c0
  have f1 : (w.drewN nq).cell? ⟨r, 1, none⟩ = _ := c1
  have f2 : (w.drewN nq).cell? ⟨r, 2, none⟩ = _ := c2
  have f3 : (w.drewN nq).cell? ⟨r, 3, none⟩ = _ := c3
  clear c0 c1 c2 c3
  generalize w.drewN nq = wa at *
  go_wp2
  go_quiet (fail)
  have HWB : Hid (RefA (wa.drewN nq) S r (.slice A K c) SB g (f : Int) ps K) := HWA.out.frame (T := NoT) ((Only.refl _ _).drewN nq) (fun _ _ h => h)
  have HOWB : Hid (Only S w (wa.drewN nq)) := HOWA.out.drewN nq
  have k0 : (wa.drewN nq).cell? ⟨r, 0, none⟩ = _ := f0
  have k1 : (wa.drewN nq).cell? ⟨r, 1, none⟩ = _ := f1
  have k2 : (wa.drewN nq).cell? ⟨r, 2, none⟩ = _ := f2
  have k3 : (wa.drewN nq).cell? ⟨r, 3, none⟩ = _ := f3
  clear f0 f1 f2 f3
  generalize wa.drewN nq = wb at *
  go_wp2
  go_loopw [6, 7] (fun t i wr => ∃ j : Nat, j ≤ P + 1 ∧ i = .int .i64 j ∧ t = .int .i64 (endA ps j : Nat) ∧ wb = wr) (fun _ i _ => P + 1 - (intOf i).toNat)
  case atStart => exact ⟨0, by omega, rfl, rfl, rfl⟩
  case round =>
    obtain ⟨j, hj, rfl, rfl, rfl⟩ := hrel
    by_cases hlt : j ≤ P
    · have i5 : (endA ps j : Int) ≤ (g : Int) := by have := endA_mono ps hlt; have := HG1.out; omega
      obtain ⟨ge, oe, ce, hv, -, -, -, hce, -⟩ := HWB.out.eo.form (by omega)
      simp only [Value.slice.injEq, true_and] at hv
      obtain ⟨rfl, rfl⟩ := hv
      have cej := hce j (by omega)
      have hgj : (endsL ps K)[j]? = some ((endA ps (j + 1) : Nat) : Int) := by
        unfold endsL
        rw [List.getElem?_map, List.getElem?_range (by omega)]; rfl
      rw [List.getElem?_map, hgj] at cej
      simp only [Option.map_some, iV] at cej
      have i6 : (j : Int) < (K : Int) := by omega
      clear hce hgj
      generalize hE1 : endA ps (j + 1) = E1 at *
      have HE1 := Lib.hid hE1
      clear hE1
      go_wp2
      go_roundw
      case rel => exact ⟨j + 1, by omega, by go_num, by rw [HE1.out], by first | rfl | trivial⟩
      case measure => simp [intOf]; omega
    · obtain rfl : j = P + 1 := by omega
      rw [HE.out]
      have i5 : ¬ (E : Int) ≤ (g : Int) := by omega
      by_cases hb : (m : Int) < (E : Int) - (g : Int)
      · obtain ⟨t1, ht1⟩ : ∃ t1 : Nat, (g : Int) + m = (t1 : Int) := ⟨(g + m).toNat, by omega⟩
        by_cases hl2 : (f : Int) < (t1 : Int)
        · skip
          obtain rfl : nn = f - g := by omega
          have ht3 : g ≤ f ∧ f ≤ N := by omega
          clear hnn
          have HX : Hid (SB.extract g f = ⟨((bs.drop g).take (f - g)).toArray⟩) := ba_eq _ _ (by rw [ba_extract, HSB.out])
          have i7 : (g : Int) ≤ (f : Int) := by omega
          have i8 : (f : Int) ≤ (N : Int) := by omega
          go_wp2_with fail
          go_quiet (fail)
          have HWC : Hid (RefA (wb.drewN nq) S r (.slice A K c) SB g (f : Int) ps K) := HWB.out.frame (T := NoT) ((Only.refl _ _).drewN nq) (fun _ _ h => h)
          have HOC : Hid (Only S w (wb.drewN nq)) := HOWB.out.drewN nq
          have l1 : (wb.drewN nq).cell? ⟨r, 1, none⟩ = some (.int .i64 (g : Int)) := k1
          have l2 := HWC.out.tb.frozen
          clear k0 k1 k2 k3 HWA HWB HOWA HOWB
          generalize wb.drewN nq = wc at *
          go_wp2
          go_ret2
          have hgt : g + (f - g) = f := by omega
          rw [hgt]
          refine ⟨by rw [HX.out]; rfl, HOC.out.setCell (p := ⟨r, 1, none⟩) (fun _ => HWC.out.sr) _, .slice A K c, ?_, ?_, HWC.out.sr, HWC.out.se, fun q hq => by simpa [World.setCell] using HWC.out.lt q hq⟩
          · have := HWC.out.tb.set_ 1 (.int .i64 (f : Int))
            simpa using this
          · rw [HK.out]; exact HWC.out.eo.setCell (p := ⟨r, 1, none⟩) (own_ne_blk HWC.out.eo HWC.out.tb (by decide)) _
        · skip
          obtain rfl : nn = t1 - g := by omega
          have ht3 : g ≤ t1 ∧ t1 ≤ N := by omega
          clear hnn
          have HX : Hid (SB.extract g t1 = ⟨((bs.drop g).take (t1 - g)).toArray⟩) := ba_eq _ _ (by rw [ba_extract, HSB.out])
          have i7 : (g : Int) ≤ (t1 : Int) := by omega
          have i8 : (t1 : Int) ≤ (N : Int) := by omega
          go_wp2_with fail
          go_quiet (fail)
          have HWC : Hid (RefA (wb.drewN nq) S r (.slice A K c) SB g (f : Int) ps K) := HWB.out.frame (T := NoT) ((Only.refl _ _).drewN nq) (fun _ _ h => h)
          have HOC : Hid (Only S w (wb.drewN nq)) := HOWB.out.drewN nq
          have l1 : (wb.drewN nq).cell? ⟨r, 1, none⟩ = some (.int .i64 (g : Int)) := k1
          have l2 := HWC.out.tb.frozen
          clear k0 k1 k2 k3 HWA HWB HOWA HOWB
          generalize wb.drewN nq = wc at *
          go_wp2
          go_ret2
          have hgt : g + (t1 - g) = t1 := by omega
          rw [hgt]
          refine ⟨by rw [HX.out]; rfl, HOC.out.setCell (p := ⟨r, 1, none⟩) (fun _ => HWC.out.sr) _, .slice A K c, ?_, ?_, HWC.out.sr, HWC.out.se, fun q hq => by simpa [World.setCell] using HWC.out.lt q hq⟩
          · have := HWC.out.tb.set_ 1 (.int .i64 (t1 : Int))
            simpa using this
          · rw [HK.out]; exact HWC.out.eo.setCell (p := ⟨r, 1, none⟩) (own_ne_blk HWC.out.eo HWC.out.tb (by decide)) _
      · obtain ⟨t1, rfl⟩ : ∃ t1, t1 = E := ⟨_, rfl⟩
        by_cases hl2 : (f : Int) < (t1 : Int)
        · skip
          obtain rfl : nn = f - g := by omega
          have ht3 : g ≤ f ∧ f ≤ N := by omega
          clear hnn
          have HX : Hid (SB.extract g f = ⟨((bs.drop g).take (f - g)).toArray⟩) := ba_eq _ _ (by rw [ba_extract, HSB.out])
          have i7 : (g : Int) ≤ (f : Int) := by omega
          have i8 : (f : Int) ≤ (N : Int) := by omega
          go_wp2_with fail
          go_quiet (fail)
          have HWC : Hid (RefA (wb.drewN nq) S r (.slice A K c) SB g (f : Int) ps K) := HWB.out.frame (T := NoT) ((Only.refl _ _).drewN nq) (fun _ _ h => h)
          have HOC : Hid (Only S w (wb.drewN nq)) := HOWB.out.drewN nq
          have l1 : (wb.drewN nq).cell? ⟨r, 1, none⟩ = some (.int .i64 (g : Int)) := k1
          have l2 := HWC.out.tb.frozen
          clear k0 k1 k2 k3 HWA HWB HOWA HOWB
          generalize wb.drewN nq = wc at *
          go_wp2
          go_ret2
          have hgt : g + (f - g) = f := by omega
          rw [hgt]
          refine ⟨by rw [HX.out]; rfl, HOC.out.setCell (p := ⟨r, 1, none⟩) (fun _ => HWC.out.sr) _, .slice A K c, ?_, ?_, HWC.out.sr, HWC.out.se, fun q hq => by simpa [World.setCell] using HWC.out.lt q hq⟩
          · have := HWC.out.tb.set_ 1 (.int .i64 (f : Int))
            simpa using this
          · rw [HK.out]; exact HWC.out.eo.setCell (p := ⟨r, 1, none⟩) (own_ne_blk HWC.out.eo HWC.out.tb (by decide)) _
        · skip
          obtain rfl : nn = t1 - g := by omega
          have ht3 : g ≤ t1 ∧ t1 ≤ N := by omega
          clear hnn
          have HX : Hid (SB.extract g t1 = ⟨((bs.drop g).take (t1 - g)).toArray⟩) := ba_eq _ _ (by rw [ba_extract, HSB.out])
          have i7 : (g : Int) ≤ (t1 : Int) := by omega
          have i8 : (t1 : Int) ≤ (N : Int) := by omega
          go_wp2_with fail
          go_quiet (fail)
          have HWC : Hid (RefA (wb.drewN nq) S r (.slice A K c) SB g (f : Int) ps K) := HWB.out.frame (T := NoT) ((Only.refl _ _).drewN nq) (fun _ _ h => h)
          have HOC : Hid (Only S w (wb.drewN nq)) := HOWB.out.drewN nq
          have l1 : (wb.drewN nq).cell? ⟨r, 1, none⟩ = some (.int .i64 (g : Int)) := k1
          have l2 := HWC.out.tb.frozen
          clear k0 k1 k2 k3 HWA HWB HOWA HOWB
          generalize wb.drewN nq = wc at *
          go_wp2
          go_ret2
          have hgt : g + (t1 - g) = t1 := by omega
          rw [hgt]
          refine ⟨by rw [HX.out]; rfl, HOC.out.setCell (p := ⟨r, 1, none⟩) (fun _ => HWC.out.sr) _, .slice A K c, ?_, ?_, HWC.out.sr, HWC.out.se, fun q hq => by simpa [World.setCell] using HWC.out.lt q hq⟩
          · have := HWC.out.tb.set_ 1 (.int .i64 (t1 : Int))
            simpa using this
          · rw [HK.out]; exact HWC.out.eo.setCell (p := ⟨r, 1, none⟩) (own_ne_blk HWC.out.eo HWC.out.tb (by decide)) _

end Go.Proofs.Ytnigmfjghapfgaa
