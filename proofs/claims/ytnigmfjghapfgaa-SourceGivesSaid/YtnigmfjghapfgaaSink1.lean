/-
  The sink's state, how it lies in memory, and the contracts of source.Open, Put, Asked; no condition beyond those that each theorem states.
-/
import Derived.Test.YtnigmfjghapfgaaSrc2
namespace Go.Proofs.Ytnigmfjghapfgaa
open Go.RowKit Go.Rb

theorem infoT : (Try.prog.info? 9).map (fun i => (i.zero, i.size, i.bytes)) = some (some (.string ⟨#[]⟩), 1, 16) := by kernel_rfl
def tV (b : ByteArray) : Value := .string b
/-- The texts that it has; where it refuses; how often it was asked. -/
structure KS where
  got : List ByteArray
  rf : Int
  ak : Nat
structure KRepA (w : World) (S : Nat → Prop) (k : Nat) (gv : Value) (s : KS) : Prop where
  tb : Blk w k 53 #[gv, .int .i64 s.rf, .int .i64 (s.ak : Int)]
  go : Own w 9 1 gv s.got.length (s.got.map tV)
  sp : S k
  sg : ∀ q, gv.ownBlock = some q → S q
  lt : ∀ q, S q → q < w.heap.size
def KRep (w : World) (S : Nat → Prop) (k : Nat) (s : KS) : Prop := ∃ gv, KRepA w S k gv s
section
variable {w w' : World} {S T : Nat → Prop} {k : Nat} {gv : Value} {s : KS}
theorem KRepA.frame (h : KRepA w S k gv s) (hb : Only T w w') (hd : ∀ q, S q → ¬ T q) : KRepA w' S k gv s :=
  ⟨h.tb.only hb (hd _ h.sp), h.go.only hb fun q hq => hd _ (h.sg q hq), h.sp, h.sg, fun q hq => Nat.lt_of_lt_of_le (h.lt q hq) hb.size⟩
theorem KRep.frame (h : KRep w S k s) (hb : Only T w w') (hd : ∀ q, S q → ¬ T q) : KRep w' S k s := by
  obtain ⟨a, h⟩ := h; exact ⟨a, h.frame hb hd⟩
theorem KRep.lt (h : KRep w S k s) {q : Nat} (hq : S q) : q < w.heap.size := by obtain ⟨_, h⟩ := h; exact h.lt q hq
end

set_option maxHeartbeats 1000000 in
theorem open_any (rf : Int) (w : World) : Calls Try.prog 14 #[.int .i64 rf] w fun e w' => ∃ k S, e = .returned (pp k) ∧ Below w.heap.size w w' ∧ KRep w' S k ⟨[], rf, 0⟩ ∧ ∀ q, S q → w.heap.size ≤ q := by
  go_enter Try.func14, Try.ntmps14
  go_wp2
  go_ret
  refine ⟨w.heap.size, fun q => q = w.heap.size, rfl, below_al (Below.refl _ _) _, ⟨.slice none 0 0, Blk.new w _ _, Own.nil_ _ _ _, rfl, fun q hq => by simp [Value.ownBlock] at hq, fun q hq => by subst hq; simp⟩, fun q hq => by omega⟩
set_option maxHeartbeats 1000000 in
theorem asked_any {S : Nat → Prop} {k : Nat} {s : KS} (w : World) (hR : KRep w S k s) : Calls Try.prog 16 #[pp k] w fun e w' => e = .returned (.int .i64 (s.ak : Int)) ∧ w = w' := by
  obtain ⟨gv, h⟩ := hR
  have c2 : w.cell? ⟨k, 2, none⟩ = some (.int .i64 (s.ak : Int)) := by rw [h.tb.cell]; rfl
  clear h
  unfold pp
  go_enter Try.func16, Try.ntmps16
  go_wp2
  go_ret
  exact ⟨rfl, rfl⟩

attribute [local irreducible] Go.wpQuiet

/-- Does it refuse? -/
def KS.no (s : KS) : Prop := 0 ≤ s.rf ∧ s.rf ≤ s.got.length
set_option maxRecDepth 20000 in
set_option maxHeartbeats 4000000 in
theorem put_no {S : Nat → Prop} {k : Nat} {s : KS} (b : ByteArray) (w : World) (hR : KRep w S k s) (ha : s.ak ≤ 100000) (hn : s.no) :
    Calls Try.prog 15 #[pp k, .string b] w fun e w' => e = .returned (.int .i64 12) ∧ Only S w w' ∧ KRep w' S k ⟨s.got, s.rf, s.ak + 1⟩ := by
  obtain ⟨gv, h⟩ := hR
  obtain ⟨A, c, rfl, -, -⟩ := h.go.len_
  have HH := Lib.hid h
  have c2 : w.cell? ⟨k, 2, none⟩ = some (.int .i64 (s.ak : Int)) := by rw [h.tb.cell]; rfl
  have ff := h.tb.frozen
  have hb1 : Blk (w.setCell ⟨k, 2, none⟩ (.int .i64 ((s.ak : Int) + 1))) k 53 #[.slice A s.got.length c, .int .i64 s.rf, .int .i64 ((s.ak : Int) + 1)] := by
    have := h.tb.set_ 2 (.int .i64 ((s.ak : Int) + 1))
    simpa using this
  have d0 : (w.setCell ⟨k, 2, none⟩ (.int .i64 ((s.ak : Int) + 1))).cell? ⟨k, 0, none⟩ = some (.slice A s.got.length c) := by rw [hb1.cell]; rfl
  have d1 : (w.setCell ⟨k, 2, none⟩ (.int .i64 ((s.ak : Int) + 1))).cell? ⟨k, 1, none⟩ = some (.int .i64 s.rf) := by rw [hb1.cell]; rfl
  have key : Hid (∀ q, Only S w ((w.setCell ⟨k, 2, none⟩ (.int .i64 ((s.ak : Int) + 1))).drewN q) ∧ KRep ((w.setCell ⟨k, 2, none⟩ (.int .i64 ((s.ak : Int) + 1))).drewN q) S k ⟨s.got, s.rf, s.ak + 1⟩) := fun q => by
    refine ⟨((Only.refl S w).setCell (p := ⟨k, 2, none⟩) (fun _ => h.sp) _).drewN q, _, hb1.drewN q, ?_, h.sp, h.sg, fun j hj => by simpa [World.setCell] using h.lt j hj⟩
    exact (h.go.setCell (p := ⟨k, 2, none⟩) (own_ne_blk h.go h.tb (by decide)) _).drewN q
  obtain ⟨h1, h2⟩ := hn
  clear h hb1
  generalize s.got.length = n at *
  have b1 : decide (0 ≤ s.rf) = true := by simpa using h1
  have b2 : decide (s.rf ≤ (n : Int)) = true := by simpa using h2
  generalize s.rf = rf at *
  generalize s.ak = ak at *
  unfold pp
  go_enter Try.func15, Try.ntmps15
  go_wp2
  generalize w.setCell ⟨k, 2, none⟩ (.int .i64 ((ak : Int) + 1)) = w1 at *
  go_quiet (fail)
  go_wp2
  go_ret
  exact ⟨rfl, (key.out _).1, (key.out _).2⟩

set_option maxRecDepth 20000 in
set_option maxHeartbeats 4000000 in
theorem put_ok {S : Nat → Prop} {k : Nat} {s : KS} (b : ByteArray) (w : World) (hR : KRep w S k s) (ha : s.ak ≤ 100000) (hl : s.got.length ≤ 100000) (hn : ¬ s.no) :
    Calls Try.prog 15 #[pp k, .string b] w fun e w' => e = .returned (.int .i64 0) ∧ Only S w w' ∧ ∃ S', (∀ q, S' q → S q ∨ w.heap.size ≤ q) ∧ KRep w' S' k ⟨s.got ++ [b], s.rf, s.ak + 1⟩ := by
  obtain ⟨i0, hi0, hz0, hz1, hz2⟩ := info_parts infoT
  obtain ⟨gv, h⟩ := hR
  obtain ⟨A, c, rfl, -, -⟩ := h.go.len_
  have HH := Lib.hid h
  have c2 : w.cell? ⟨k, 2, none⟩ = some (.int .i64 (s.ak : Int)) := by rw [h.tb.cell]; rfl
  have ff := h.tb.frozen
  have hb1 : Blk (w.setCell ⟨k, 2, none⟩ (.int .i64 ((s.ak : Int) + 1))) k 53 #[.slice A s.got.length c, .int .i64 s.rf, .int .i64 ((s.ak : Int) + 1)] := by
    have := h.tb.set_ 2 (.int .i64 ((s.ak : Int) + 1))
    simpa using this
  have d0 : (w.setCell ⟨k, 2, none⟩ (.int .i64 ((s.ak : Int) + 1))).cell? ⟨k, 0, none⟩ = some (.slice A s.got.length c) := by rw [hb1.cell]; rfl
  have d1 : (w.setCell ⟨k, 2, none⟩ (.int .i64 ((s.ak : Int) + 1))).cell? ⟨k, 1, none⟩ = some (.int .i64 s.rf) := by rw [hb1.cell]; rfl
  have hg1 : Own (w.setCell ⟨k, 2, none⟩ (.int .i64 ((s.ak : Int) + 1))) 9 1 (.slice A s.got.length c) s.got.length (s.got.map tV) := h.go.setCell (p := ⟨k, 2, none⟩) (own_ne_blk h.go h.tb (by decide)) _
  have ho1 : Only S w (w.setCell ⟨k, 2, none⟩ (.int .i64 ((s.ak : Int) + 1))) := (Only.refl S w).setCell (p := ⟨k, 2, none⟩) (fun _ => h.sp) _
  have HB1 := Lib.hid hb1; have HG1 := Lib.hid hg1; have HO1 := Lib.hid ho1
  have hnb : (0 ≤ s.rf → ¬ s.rf ≤ (s.got.length : Int)) := fun h1 h2 => hn ⟨h1, h2⟩
  clear h hb1 hg1 ho1 hn
  generalize hgm : s.got.map tV = gs at *
  have HGM := Lib.hid hgm
  clear hgm
  generalize hgl : s.got.length = n at *
  have HGLn := Lib.hid hgl
  clear hgl
  generalize s.rf = rf at *
  generalize s.ak = ak at *
  unfold pp
  by_cases hf : 0 ≤ rf
  · have b1 : decide (0 ≤ rf) = true := by simpa using hf
    have b2 : decide (rf ≤ (n : Int)) = false := by simpa using hnb hf
    clear hnb
    go_enter Try.func15, Try.ntmps15
    go_wp2
    generalize w.setCell ⟨k, 2, none⟩ (.int .i64 ((ak : Int) + 1)) = w1 at *
    go_quiet (fail)
    have HB2 : Hid (Blk (w1.drewN nq) k 53 #[.slice A n c, .int .i64 rf, .int .i64 ((ak : Int) + 1)]) := HB1.out.drewN nq
    have HG2 : Hid (Own (w1.drewN nq) 9 1 (.slice A n c) n gs) := HG1.out.drewN nq
    have HO2 : Hid (Only S w (w1.drewN nq)) := HO1.out.drewN nq
    have e0 : (w1.drewN nq).cell? ⟨k, 0, none⟩ = some (.slice A n c) := d0
    clear d0 d1 HB1 HG1 HO1
    generalize w1.drewN nq = w2 at *
    have key : Hid (∀ w4 g o c', Own w4 9 1 (.slice (some ⟨g, o, none⟩) (n + 1) c') (n + 1) (gs ++ [.string b]) → (w2.alloc (.cells #[.string b] 9)).grownBy w4 (Value.slice A n c).ownBlock → ((Value.slice A n c).ownBlock = some g ∨ g = w2.heap.size + 1) →
        w4.cell? ⟨k, 0, none⟩ = some (.slice A n c) ∧ w4.frozen? ⟨k, 0, none⟩ = false ∧
        Hid (Only S w (w4.setCell ⟨k, 0, none⟩ (.slice (some ⟨g, o, none⟩) (n + 1) c')) ∧ ∃ S', (∀ q, S' q → S q ∨ w.heap.size ≤ q) ∧ KRep (w4.setCell ⟨k, 0, none⟩ (.slice (some ⟨g, o, none⟩) (n + 1) c')) S' k ⟨s.got ++ [b], rf, ak + 1⟩)) := by
      intro w4 g o c' hown hgrow hat
      have hne : (Value.slice A n c).ownBlock ≠ some k := own_ne_blk HG2.out HB2.out (by decide)
      have hb : Blk w4 k 53 #[.slice A n c, .int .i64 rf, .int .i64 ((ak : Int) + 1)] := (HB2.out.alloc _).grown hgrow (fun e => hne e.symm)
      have hO : Only S w w4 := (HO2.out.alloc _).grown hgrow (fun q hq _ => HH.out.sg q hq)
      have hs1 := HO2.out.size
      have hs2 := hgrow.size
      refine ⟨by rw [hb.cell]; rfl, hb.frozen 0, hO.setCell (p := ⟨k, 0, none⟩) (fun _ => HH.out.sp) _, fun q => S q ∨ (w.heap.size ≤ q ∧ q < w4.heap.size), fun q hq => hq.imp id (fun h => h.1), .slice (some ⟨g, o, none⟩) (n + 1) c', ?_, ?_, .inl HH.out.sp, fun q hq => ?_, fun q hq => ?_⟩
      · have := hb.set_ 0 (.slice (some ⟨g, o, none⟩) (n + 1) c')
        simpa using this
      · have e1 : (s.got ++ [b]).length = n + 1 := by rw [List.length_append, HGLn.out]; rfl
        have e2 : (s.got ++ [b]).map tV = gs ++ [.string b] := by rw [List.map_append, HGM.out]; rfl
        show Own _ _ _ _ (s.got ++ [b]).length _
        rw [e1, e2]
        exact hown.setCell (p := ⟨k, 0, none⟩) (own_ne_blk hown hb (by decide)) _
      · have e9 : g = q := by simpa [Value.ownBlock] using hq
        subst e9
        have hgl := hown.lt (k := g) rfl
        rcases hat with h | h
        · exact .inl (HH.out.sg _ h)
        · exact .inr ⟨by omega, hgl⟩
      · have e3 : (w4.setCell ⟨k, 0, none⟩ (.slice (some ⟨g, o, none⟩) (n + 1) c')).heap.size = w4.heap.size := by simp [World.setCell]
        rw [e3]
        rcases hq with hq | hq
        · have := HH.out.lt q hq; have := hO.size; omega
        · exact hq.2
    go_wp2_with (at_builtin; refine wpList_append_mine _ rfl (.tmp 33) (.tmp 35) _ rfl 9 i0 _ 1 16 Try.underlying39 hi0 hz0 hz1 hz2 rfl (by omega) (.slice A n c) n gs rfl (by exact HG2.out.alloc _) _ 1 1 [_] rfl rfl (by exact news_push rfl rfl) (by simp [Value.oneCell']) (by omega) (by simp only [maxLen]; omega) (by omega) _ rfl ?_; intro g2 o2 c2 w4 hown2 hgrow2 hat2; obtain ⟨cc, gg, HK⟩ := key.out w4 g2 o2 c2 hown2 hgrow2 (by rcases hat2 with h | h; exact .inl h; right; rw [h]; simp); clear hown2 hgrow2 hat2)
    go_ret
    exact ⟨rfl, HK.out.1, HK.out.2⟩
  · have b1 : decide (0 ≤ rf) = false := by simpa using hf
    clear hnb
    go_enter Try.func15, Try.ntmps15
    go_wp2
    generalize w.setCell ⟨k, 2, none⟩ (.int .i64 ((ak : Int) + 1)) = w1 at *
    go_quiet (fail)
    have HB2 : Hid (Blk (w1.drewN nq) k 53 #[.slice A n c, .int .i64 rf, .int .i64 ((ak : Int) + 1)]) := HB1.out.drewN nq
    have HG2 : Hid (Own (w1.drewN nq) 9 1 (.slice A n c) n gs) := HG1.out.drewN nq
    have HO2 : Hid (Only S w (w1.drewN nq)) := HO1.out.drewN nq
    have e0 : (w1.drewN nq).cell? ⟨k, 0, none⟩ = some (.slice A n c) := d0
    clear d0 d1 HB1 HG1 HO1
    generalize w1.drewN nq = w2 at *
    have key : Hid (∀ w4 g o c', Own w4 9 1 (.slice (some ⟨g, o, none⟩) (n + 1) c') (n + 1) (gs ++ [.string b]) → (w2.alloc (.cells #[.string b] 9)).grownBy w4 (Value.slice A n c).ownBlock → ((Value.slice A n c).ownBlock = some g ∨ g = w2.heap.size + 1) →
        w4.cell? ⟨k, 0, none⟩ = some (.slice A n c) ∧ w4.frozen? ⟨k, 0, none⟩ = false ∧
        Hid (Only S w (w4.setCell ⟨k, 0, none⟩ (.slice (some ⟨g, o, none⟩) (n + 1) c')) ∧ ∃ S', (∀ q, S' q → S q ∨ w.heap.size ≤ q) ∧ KRep (w4.setCell ⟨k, 0, none⟩ (.slice (some ⟨g, o, none⟩) (n + 1) c')) S' k ⟨s.got ++ [b], rf, ak + 1⟩)) := by
      intro w4 g o c' hown hgrow hat
      have hne : (Value.slice A n c).ownBlock ≠ some k := own_ne_blk HG2.out HB2.out (by decide)
      have hb : Blk w4 k 53 #[.slice A n c, .int .i64 rf, .int .i64 ((ak : Int) + 1)] := (HB2.out.alloc _).grown hgrow (fun e => hne e.symm)
      have hO : Only S w w4 := (HO2.out.alloc _).grown hgrow (fun q hq _ => HH.out.sg q hq)
      have hs1 := HO2.out.size
      have hs2 := hgrow.size
      refine ⟨by rw [hb.cell]; rfl, hb.frozen 0, hO.setCell (p := ⟨k, 0, none⟩) (fun _ => HH.out.sp) _, fun q => S q ∨ (w.heap.size ≤ q ∧ q < w4.heap.size), fun q hq => hq.imp id (fun h => h.1), .slice (some ⟨g, o, none⟩) (n + 1) c', ?_, ?_, .inl HH.out.sp, fun q hq => ?_, fun q hq => ?_⟩
      · have := hb.set_ 0 (.slice (some ⟨g, o, none⟩) (n + 1) c')
        simpa using this
      · have e1 : (s.got ++ [b]).length = n + 1 := by rw [List.length_append, HGLn.out]; rfl
        have e2 : (s.got ++ [b]).map tV = gs ++ [.string b] := by rw [List.map_append, HGM.out]; rfl
        show Own _ _ _ _ (s.got ++ [b]).length _
        rw [e1, e2]
        exact hown.setCell (p := ⟨k, 0, none⟩) (own_ne_blk hown hb (by decide)) _
      · have e9 : g = q := by simpa [Value.ownBlock] using hq
        subst e9
        have hgl := hown.lt (k := g) rfl
        rcases hat with h | h
        · exact .inl (HH.out.sg _ h)
        · exact .inr ⟨by omega, hgl⟩
      · have e3 : (w4.setCell ⟨k, 0, none⟩ (.slice (some ⟨g, o, none⟩) (n + 1) c')).heap.size = w4.heap.size := by simp [World.setCell]
        rw [e3]
        rcases hq with hq | hq
        · have := HH.out.lt q hq; have := hO.size; omega
        · exact hq.2
    go_wp2_with (at_builtin; refine wpList_append_mine _ rfl (.tmp 33) (.tmp 35) _ rfl 9 i0 _ 1 16 Try.underlying39 hi0 hz0 hz1 hz2 rfl (by omega) (.slice A n c) n gs rfl (by exact HG2.out.alloc _) _ 1 1 [_] rfl rfl (by exact news_push rfl rfl) (by simp [Value.oneCell']) (by omega) (by simp only [maxLen]; omega) (by omega) _ rfl ?_; intro g2 o2 c2 w4 hown2 hgrow2 hat2; obtain ⟨cc, gg, HK⟩ := key.out w4 g2 o2 c2 hown2 hgrow2 (by rcases hat2 with h | h; exact .inl h; right; rw [h]; simp); clear hown2 hgrow2 hat2)
    go_ret
    exact ⟨rfl, HK.out.1, HK.out.2⟩
end Go.Proofs.Ytnigmfjghapfgaa
