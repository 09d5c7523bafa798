/-
  The document's source: how it lies in memory, and the contracts of its functions New and Next; no condition beyond those that each theorem states.
-/
import Derived.Test.YtnigmfjghapfgaaAll1
namespace Go.Proofs.Ytnigmfjghapfgaa
open Go.RowKit Go.Rb

/-- Where the first j pieces end. -/
def endA (ps : List (List UInt8)) (j : Nat) : Nat := (ps.take j).flatten.length
def endsL (ps : List (List UInt8)) (k : Nat) : List Int := (List.range k).map fun i => ((endA ps (i + 1) : Nat) : Int)
theorem endsL_len (ps : List (List UInt8)) (k : Nat) : (endsL ps k).length = k := by simp [endsL]
theorem endsL_succ (ps : List (List UInt8)) (k : Nat) : endsL ps (k + 1) = endsL ps k ++ [((endA ps (k + 1) : Nat) : Int)] := by simp [endsL, List.range_succ]
theorem endA_succ (ps : List (List UInt8)) (j : Nat) (h : j < ps.length) : endA ps (j + 1) = endA ps j + (ps.getD j []).length := by
  unfold endA
  rw [List.take_succ_eq_append_getElem h, List.flatten_append, List.length_append, List.getD_eq_getElem?_getD, List.getElem?_eq_getElem h]
  simp
theorem endA_le (ps : List (List UInt8)) (j : Nat) : endA ps j ≤ ps.flatten.length := by
  unfold endA
  have := congrArg (fun l => l.flatten.length) (List.take_append_drop j ps)
  simp only [List.flatten_append, List.length_append] at this
  omega
theorem endA_mono (ps : List (List UInt8)) {i j : Nat} (h : i ≤ j) : endA ps i ≤ endA ps j := by
  unfold endA
  have e : ps.take i = (ps.take j).take i := by rw [List.take_take, Nat.min_eq_left h]
  rw [e]
  exact endA_le (ps.take j) i

structure RefA (w : World) (S : Nat → Prop) (r : Nat) (ev : Value) (SB : ByteArray) (g : Nat) (fl : Int) (ps : List (List UInt8)) (k : Nat) : Prop where
  tb : Blk w r 37 #[.string SB, .int .i64 (g : Int), .int .i64 fl, ev]
  eo : Own w 3 1 ev k ((endsL ps k).map iV)
  sr : S r
  se : ∀ q, ev.ownBlock = some q → S q
  lt : ∀ q, S q → q < w.heap.size
def RefS (w : World) (S : Nat → Prop) (r : Nat) (SB : ByteArray) (g : Nat) (fl : Int) (ps : List (List UInt8)) : Prop := ∃ ev, RefA w S r ev SB g fl ps ps.length
section
variable {w w' : World} {S T : Nat → Prop} {r g k : Nat} {ev : Value} {SB : ByteArray} {fl : Int} {ps : List (List UInt8)}
theorem RefA.frame (h : RefA w S r ev SB g fl ps k) (hb : Only T w w') (hd : ∀ q, S q → ¬ T q) : RefA w' S r ev SB g fl ps k :=
  ⟨h.tb.only hb (hd _ h.sr), h.eo.only hb fun q hq => hd _ (h.se q hq), h.sr, h.se, fun q hq => Nat.lt_of_lt_of_le (h.lt q hq) hb.size⟩
theorem RefS.frame (h : RefS w S r SB g fl ps) (hb : Only T w w') (hd : ∀ q, S q → ¬ T q) : RefS w' S r SB g fl ps := by obtain ⟨e, h⟩ := h; exact ⟨e, h.frame hb hd⟩
theorem RefS.lt (h : RefS w S r SB g fl ps) {q : Nat} (hq : S q) : q < w.heap.size := by obtain ⟨e, h⟩ := h; exact h.lt q hq
end

set_option maxRecDepth 20000 in
set_option maxHeartbeats 4000000 in
theorem rNew_any (bs : List UInt8) (zs : List Int) (SB : ByteArray) (hSB : SB = ⟨bs.toArray⟩) (fl : Int) (Z : Option Addr) (n m d B : Nat) (w : World) (hz : Rd w B 1 Z m (zs.map iV)) (hl : bs.length = n) (hn : n ≤ 1000) (hm : m ≤ 1000) (hB : B ≤ w.heap.size) :
    Calls Try.prog 10 #[.string SB, .int .i64 fl, .slice Z m d] w fun e w' => ∃ r S, e = .returned (pp r) ∧ Below w.heap.size w w' ∧ RefS w' S r SB 0 fl (cutP bs zs) ∧ ∀ q, S q → w.heap.size ≤ q := by
  obtain ⟨i0, hi0, hz0, hz1, hz2⟩ := info_parts info3
  have hC : Hid (∀ W, Below w.heap.size w W → Calls Try.prog 21 #[.string SB, .slice Z m d] W fun e w' => ∃ v, e = .returned v ∧ Own w' 9 1 v (cutP bs zs).length ((cutP bs zs).map sV) ∧ Below W.heap.size W w' ∧ ∀ k, v.ownBlock = some k → W.heap.size ≤ k) := fun W hW => by
    rw [hSB]
    exact (refCut_any bs zs Z n m d B W (hz.below (hW.mono hB)) hl (by omega) (by omega) (Nat.le_trans hB hW.size)).mono fun e w' ⟨v, h1, h2, h3, h4⟩ => ⟨v, h1, h2, h3, h4⟩
  have hflat : (cutP bs zs).flatten.length ≤ 1000 := by rw [cutP_flat]; omega
  have hcl : (cutP bs zs).length ≤ 1000 := by have := cutP_len bs zs; omega
  have HF := Lib.hid hflat
  have hb0 : Below w.heap.size w (w.alloc (.cells #[.string SB, .int .i64 0, .int .i64 fl, .slice none 0 0] 37)) := below_al (Below.refl _ w) _
  have HB0 := Lib.hid hb0
  have HT0 : Hid (Blk (w.alloc (.cells #[.string SB, .int .i64 0, .int .i64 fl, .slice none 0 0] 37)) w.heap.size 37 #[.string SB, .int .i64 0, .int .i64 fl, .slice none 0 0]) := Blk.new _ _ _
  have HS0 : Hid ((w.alloc (.cells #[.string SB, .int .i64 0, .int .i64 fl, .slice none 0 0] 37)).heap.size = w.heap.size + 1) := by show _ = _; simp
  clear hz hl hSB hb0 hflat
  generalize cutP bs zs = ps at *
  go_enter Try.func10, Try.ntmps10
  go_wp2_with (go_at_call 21; refine (hC.out _ HB0.out).mono ?_; rintro e1 w1 ⟨v1, rfl, ho1, hb1, hk1⟩; obtain ⟨A1, c1, rfl, -, -⟩ := ho1.len_; have HO1 := Lib.hid ho1; have HB1 := Lib.hid hb1; have HK1 := Lib.hid hk1; clear ho1 hb1 hk1)
  have HT1 : Hid (Blk w1 w.heap.size 37 #[.string SB, .int .i64 0, .int .i64 fl, .slice none 0 0]) := HT0.out.below HB1.out (by have := HS0.out; omega)
  have HBW : Hid (Below w.heap.size w w1) := HB0.out.trans (HB1.out.mono HB0.out.size)
  clear HT0 HB0
  generalize hK : ps.length = K at *
  have HK := Lib.hid hK
  clear hK
  go_loopw [9, 10] (fun a i wr => ∃ (j : Nat) (ev : Value), j ≤ K ∧ i = .int .i64 j ∧ a = .int .i64 (endA ps j : Nat) ∧ Below w.heap.size w wr ∧ Own wr 9 1 (.slice A1 K c1) K (ps.map sV) ∧ RefA wr (fun q => w.heap.size ≤ q ∧ q < wr.heap.size) w.heap.size ev SB 0 fl ps j) (fun _ i _ => K - (intOf i).toNat)
  case atStart =>
    refine ⟨0, .slice none 0 0, by omega, rfl, rfl, HBW.out, HO1.out, HT1.out, Own.nil_ _ _ _, ⟨Nat.le_refl _, HT1.out.lt⟩, fun q hq => by simp [Value.ownBlock] at hq, fun q hq => hq.2⟩
  case round =>
    obtain ⟨j, ev, hj, rfl, rfl, hbw, hown, hrep⟩ := hrel
    have HB := Lib.hid hbw; have HO := Lib.hid hown; have HR := Lib.hid hrep
    by_cases hlt : j < K
    · have i5 : (j : Int) < (K : Int) := by omega
      obtain ⟨bp, op, cp, hv, -, -, -, hcp, -⟩ := hown.form (by omega)
      simp only [Value.slice.injEq, true_and] at hv
      obtain ⟨rfl, rfl⟩ := hv
      have cpj := hcp j (by omega)
      rw [List.getElem?_map, List.getElem?_eq_getElem (by rw [HK.out]; exact hlt)] at cpj
      simp only [Option.map_some, sV] at cpj
      have hes := endA_succ ps j (by rw [HK.out]; exact hlt)
      have hgd : ps.getD j [] = ps[j]'(by rw [HK.out]; exact hlt) := by rw [List.getD_eq_getElem?_getD, List.getElem?_eq_getElem (by rw [HK.out]; exact hlt)]; rfl
      rw [hgd] at hes
      have he1 := endA_le ps (j + 1)
      have he2 := HF.out
      obtain ⟨A2, c2, rfl, -, -⟩ := hrep.eo.len_
      have c3 : wr.cell? ⟨w.heap.size, 3, none⟩ = some (.slice A2 j c2) := by rw [hrep.tb.cell]; rfl
      have hE := hrep.eo
      have HE := Lib.hid hE
      have hne : (Value.slice A2 j c2).ownBlock ≠ some w.heap.size := own_ne_blk hrep.eo hrep.tb (by decide)
      have key : Hid (∀ w4 g o c, Own w4 3 1 (.slice (some ⟨g, o, none⟩) (j + 1) c) (j + 1) ((endsL ps j).map iV ++ [.int .i64 (endA ps (j + 1) : Nat)]) →
          (wr.alloc (.cells #[.int .i64 (endA ps (j + 1) : Nat)] 3)).grownBy w4 (Value.slice A2 j c2).ownBlock → ((Value.slice A2 j c2).ownBlock = some g ∨ g = wr.heap.size + 1) →
          w4.cell? ⟨w.heap.size, 3, none⟩ = some (.slice A2 j c2) ∧ w4.frozen? ⟨w.heap.size, 3, none⟩ = false ∧
          Hid (Below w.heap.size w (w4.setCell ⟨w.heap.size, 3, none⟩ (.slice (some ⟨g, o, none⟩) (j + 1) c)) ∧ Own (w4.setCell ⟨w.heap.size, 3, none⟩ (.slice (some ⟨g, o, none⟩) (j + 1) c)) 9 1 (.slice (some ⟨bp, op, none⟩) K c1) K (ps.map sV) ∧
            RefA (w4.setCell ⟨w.heap.size, 3, none⟩ (.slice (some ⟨g, o, none⟩) (j + 1) c)) (fun q => w.heap.size ≤ q ∧ q < (w4.setCell ⟨w.heap.size, 3, none⟩ (.slice (some ⟨g, o, none⟩) (j + 1) c)).heap.size) w.heap.size (.slice (some ⟨g, o, none⟩) (j + 1) c) SB 0 fl ps (j + 1))) := by
        intro w4 g o c hown4 hgrow hat
        have hb : Blk w4 w.heap.size 37 #[.string SB, .int .i64 0, .int .i64 fl, .slice A2 j c2] := (hrep.tb.alloc _).grown hgrow (fun e => hne e.symm)
        have hsz : ∀ u : Value, (w4.setCell ⟨w.heap.size, 3, none⟩ u).heap.size = w4.heap.size := fun u => by simp [World.setCell]
        have hws := HB.out.size
        have hgs := hgrow.size
        have hgl := hown4.lt (k := g) rfl
        refine ⟨by rw [hb.cell]; rfl, hb.frozen 3, ?_, ?_, ?_, ?_, ?_, ?_, ?_⟩
        · exact (Below.grown (HB.out.alloc hws _) hgrow (by simp; omega) (fun q hq => (HR.out.se q hq).1)).setCell (by simp) _
        · exact (((HO.out.alloc _).grown hgrow (fun q hq e => own_ne HO.out HE.out (by decide) q hq e)).setCell (p := ⟨w.heap.size, 3, none⟩) (own_ne_blk HO.out HR.out.tb (by decide)) _)
        · have := hb.set_ 3 (.slice (some ⟨g, o, none⟩) (j + 1) c)
          simpa using this
        · rw [endsL_succ, List.map_append]
          exact hown4.setCell (p := ⟨w.heap.size, 3, none⟩) (own_ne_blk hown4 hb (by decide)) _
        · exact ⟨Nat.le_refl _, by rw [hsz]; exact hb.lt⟩
        · intro q hq
          have e9 : g = q := by simpa [Value.ownBlock] using hq
          rw [← e9, hsz]
          refine ⟨?_, hgl⟩
          rcases hat with h | h
          · exact (HR.out.se g h).1
          · omega
        · exact fun q hq => hq.2
      have HES := Lib.hid hes
      have hsm : endA ps (j + 1) ≤ 1000 := by omega
      have hpl : (ps[j]'(by rw [HK.out]; exact hlt)).length ≤ 1000 := by omega
      have hea : (endA ps j : Int) + ((ps[j]'(by rw [HK.out]; exact hlt)).length : Int) = ((endA ps (j + 1) : Nat) : Int) := by omega
      clear hrep hown hbw hcp hgd he1 he2 hes
      generalize ps[j]'(by rw [HK.out]; exact hlt) = pj at *
      generalize hE1 : endA ps (j + 1) = E1 at *
      generalize hE0 : endA ps j = E0 at *
      have HE1 := Lib.hid hE1
      clear hE1 hE0
      go_wp2_with (at_builtin; refine wpList_append_mine _ rfl (.tmp 35) (.tmp 37) _ rfl 3 i0 _ 1 8 Try.underlying23 hi0 hz0 hz1 hz2 rfl (by omega) (.slice A2 j c2) j ((endsL ps j).map iV) rfl (by exact HE.out.alloc _) _ 1 1 [_] rfl rfl (by exact news_push rfl rfl) (by simp [Value.oneCell']) (by omega) (by simp only [maxLen]; omega) (by omega) _ rfl ?_; intro g2 o2 c4 w4 hown2 hgrow2 hat2; obtain ⟨cc, ff, HK4⟩ := key.out w4 g2 o2 c4 hown2 hgrow2 (by rcases hat2 with h | h; exact .inl h; right; rw [h]; simp); clear hown2 hgrow2 hat2)
      go_roundw
      case rel => exact ⟨j + 1, _, by omega, by go_num, by rw [HE1.out], HK4.out.1, HK4.out.2.1, HK4.out.2.2⟩
      case measure => simp [intOf]; omega
    · obtain rfl : j = K := by omega
      clear hrep hown hbw
      go_wp2
      go_ret
      refine ⟨w.heap.size, fun q => w.heap.size ≤ q ∧ q < wr.heap.size, rfl, HB.out, ⟨ev, ?_⟩, fun q hq => hq.1⟩
      rw [HK.out]
      exact HR.out
end Go.Proofs.Ytnigmfjghapfgaa
