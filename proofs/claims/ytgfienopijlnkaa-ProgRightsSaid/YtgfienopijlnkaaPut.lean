/-
  The contract of prog's put: an instruction behind the others; no condition beyond those that each theorem states.
-/
import Derived.Test.YtgfienopijlnkaaMk1
namespace Go.Proofs.Ytgfienopijlnkaa
open Go.RowKit Go.Rb
attribute [local irreducible] Go.wpQuiet

def zeroIn : Value := .agg #[.int .i64 0, .slice none 0 0, .int .i64 0, .int .i64 0]
theorem infoI : (Try.prog.info? 37).map (fun i => (i.zero, i.size, i.bytes)) = some (some zeroIn, 4, 48) := by kernel_rfl
def setRow (B : Nat) (ob : Option Nat) (s : List (Int × Int)) (hob : ∀ k, ob = some k → k < B) : Row (Only fun k => ob = some k) := ⟨fun v W => ∃ A c, v = .slice A s.length c ∧ SetV W (.slice A s.length c) s ∧ ∀ k, (Value.slice A s.length c).ownBlock = some k → B ≤ k,
  fun _ _ _ ⟨A, c, e, h, hk⟩ hR => ⟨A, c, e, Own.only h hR fun k hk1 hk2 => by have := hk k hk1; have := hob k hk2; omega, hk⟩⟩
def insRow1 (B : Nat) (ob : Option Nat) (op : Int) (n : Nat) (s : List (Int × Int)) (hob : ∀ k, ob = some k → k < B) : Row (Only fun k => ob = some k) := ⟨fun v W => ∃ A c, v = .agg #[.int .i64 op, .slice A s.length c, .int .i64 ((n : Int) + 1), .int .i64 0] ∧ SetV W (.slice A s.length c) s ∧ ∀ k, (Value.slice A s.length c).ownBlock = some k → B ≤ k,
  fun _ _ _ ⟨A, c, e, h, hk⟩ hR => ⟨A, c, e, Own.only h hR fun k hk1 hk2 => by have := hk k hk1; have := hob k hk2; omega, hk⟩⟩
def insRow2 (B : Nat) (ob : Option Nat) (op : Int) (n : Nat) (s : List (Int × Int)) (hob : ∀ k, ob = some k → k < B) : Row (Only fun k => ob = some k) := ⟨fun v W => ∃ g A c, v = .slice (some ⟨g, 0, none⟩) 1 1 ∧ B ≤ g ∧ Blk W g 37 #[.int .i64 op, .slice A s.length c, .int .i64 ((n : Int) + 1), .int .i64 0] ∧ SetV W (.slice A s.length c) s ∧ ∀ k, (Value.slice A s.length c).ownBlock = some k → B ≤ k,
  fun _ _ _ ⟨g, A, c, e, hg, hb, h, hk⟩ hR => ⟨g, A, c, e, hg, hb.only hR (fun h => by have := hob g h; omega), Own.only h hR fun k hk1 hk2 => by have := hk k hk1; have := hob k hk2; omega, hk⟩⟩
theorem insRow2_mk {B : Nat} {ob : Option Nat} {op : Int} {n c : Nat} {A : Option Addr} {s : List (Int × Int)} (hob : ∀ k, ob = some k → k < B) (W : World) (hB : B ≤ W.heap.size) (h : SetV W (.slice A s.length c) s) (hk : ∀ k, (Value.slice A s.length c).ownBlock = some k → B ≤ k) :
    (insRow2 B ob op n s hob).p (.slice (some ⟨W.heap.size, 0, none⟩) 1 1) (W.alloc (.cells #[.int .i64 op, .slice A s.length c, .int .i64 ((n : Int) + 1), .int .i64 0] 37)) := ⟨_, A, c, rfl, hB, Blk.new _ _ _, h.below (below_al (Below.refl _ _) _), hk⟩
theorem mk_push {B m n g o c' : Nat} {w W : World} {ps : List Ins} {svs : List Value} {op x : Int} {As A' : Option Addr} {cs cc : Nat} {s : List (Int × Int)} (h0 : B ≤ m) (hbk : Blk w m 50 #[.slice As n cs]) (hn : ps.length = n) (hB : ∀ k, (Value.slice As n cs).ownBlock = some k → B ≤ k) (h3 : svs.length = ps.length) (hXS : Own w 37 4 (.slice As n cs) n (insRow ps svs))
    (h5 : ∀ (i : Nat) (t : Ins), ps[i]? = some t → ∃ sv, svs[i]? = some sv ∧ SetV w sv t.set) (hR : Only (fun k => (Value.slice As n cs).ownBlock = some k) w W) (hO : Own W 37 4 (.slice (some ⟨g, o, none⟩) (n + 1) c') (n + 1) (insRow ps svs ++ [.int .i64 op, .slice A' s.length cc, .int .i64 x, .int .i64 0])) (hs : SetV W (.slice A' s.length cc) s)
    (hg : (Value.slice As n cs).ownBlock = some g ∨ w.heap.size ≤ g) : Mk B (W.setCell ⟨m, 0, none⟩ (.slice (some ⟨g, o, none⟩) (n + 1) c')) m (ps ++ [⟨op, s, x, 0⟩]) ∧ Fr B w (W.setCell ⟨m, 0, none⟩ (.slice (some ⟨g, o, none⟩) (n + 1) c')) := by
  have hml := hbk.lt
  have hns : ¬ (Value.slice As n cs).ownBlock = some m := fun e => own_ne_blk_ hXS hbk (by decide) e
  have hbk2 := hbk.only hR hns
  refine ⟨⟨h0, _, svs ++ [.slice A' s.length cc], hbk2.set_ 0 _, ?_, by simp [h3], ?_, ?_⟩, ?_⟩
  · intro k hk
    obtain rfl : g = k := by simpa [Value.ownBlock] using hk
    rcases hg with h | h
    · exact hB _ h
    · omega
  · rw [insRow_snoc _ _ h3, List.length_append, hn]
    exact hO.setCell (p := ⟨m, 0, none⟩) (fun e => own_ne_blk_ hO hbk2 (by decide) e) _
  · intro i t hi
    have key : ∀ (sv : Value) (q : List (Int × Int)), SetV W sv q → SetV (W.setCell ⟨m, 0, none⟩ (.slice (some ⟨g, o, none⟩) (n + 1) c')) sv q := fun sv q h => Own.setCell (p := ⟨m, 0, none⟩) h (own_ne_blk_ h hbk2 (by decide)) _
    by_cases hin : i < ps.length
    · rw [List.getElem?_append_left hin] at hi
      obtain ⟨sv, e1, hs1⟩ := h5 i t hi
      exact ⟨sv, by rw [List.getElem?_append_left (by omega)]; exact e1, key _ _ (Own.only hs1 hR fun k hk e => own_ne_ hs1 hXS (by decide) hk e)⟩
    · have hi2 := (List.getElem?_eq_some_iff.1 hi).1
      obtain rfl : i = ps.length := by simp at hi2; omega
      rw [List.getElem?_append_right (Nat.le_refl _)] at hi
      obtain rfl : (⟨op, s, x, 0⟩ : Ins) = t := by simpa using hi
      exact ⟨_, by rw [List.getElem?_append_right (by omega), h3]; simp, key _ _ hs⟩
  · have ho : Only (fun k => (Value.slice As n cs).ownBlock = some k ∨ k = m) w (W.setCell ⟨m, 0, none⟩ (.slice (some ⟨g, o, none⟩) (n + 1) c')) := (hR.mono fun k _ h => .inl h).setCell (p := ⟨m, 0, none⟩) (fun _ => .inr rfl) _
    refine Fr.of_only ho (by omega) ?_
    rintro k (hk | rfl)
    · refine ⟨hB k hk, fun t cs hb => ?_⟩
      by_cases ht : t = 37
      · exact .inl ht
      · exact absurd hk (own_ne_blk_ hXS hb (fun e => ht e.symm))
    · refine ⟨h0, fun t cs hb => ?_⟩
      by_cases ht : t = 50
      · exact .inr ht
      · exact absurd rfl (hb.ne_ hbk ht)
set_option maxRecDepth 20000 in
set_option maxHeartbeats 2000000 in
theorem put_any {B m c B0 : Nat} {A : Option Addr} {op : Int} {s : List (Int × Int)} {ps : List Ins} {w : World} (hM : Mk B w m ps) (hr : Rd w B0 2 A s.length (flat s)) (hB0 : B0 ≤ w.heap.size) (hs : s.length ≤ 1000) (hps : ps.length ≤ 5000)
    (hbs : ∀ W, Mk B w m ps → (∃ sl, Blk w m 50 #[sl] ∧ Only (fun k => sl.ownBlock = some k) w W) → Rd W B0 2 A s.length (flat s)) :
    Calls Try.prog 22 #[.pointer (some ⟨m, 0, none⟩), .int .i64 op, .slice A s.length c] w fun e w' => e = .returned (.int .i64 (ps.length : Int)) ∧ Mk B w' m (ps ++ [⟨op, s, (ps.length : Int) + 1, 0⟩]) ∧ Fr B w w' := by
  obtain ⟨i0, hi0, hz0, hz1, hz2⟩ := info_parts infoI
  have hM0 := hM
  obtain ⟨h0, sl, svs, hbk, hB, h3, hXS, h5⟩ := hM
  obtain ⟨As, cs, rfl, -, -⟩ := hXS.len_
  have HSR : Hid (∀ W, Only (fun k => (Value.slice As ps.length cs).ownBlock = some k) w.drew W → Rd W B0 2 A s.length (flat s)) := fun W hW => hbs W hM0 ⟨_, hbk, ⟨hW.os, hW.tape, hW.output, hW.size, hW.block⟩⟩
  obtain ⟨n, hn⟩ : ∃ n, ps.length = n := ⟨_, rfl⟩
  rw [hn] at HSR hXS hbk hB hps ⊢
  obtain ⟨XS, hx⟩ : ∃ XS, insRow ps svs = XS := ⟨_, rfl⟩
  have HPUSH := Lib.hid (fun (W : World) (g o c' : Nat) (A' : Option Addr) (cc : Nat) => mk_push (B := B) (m := m) (n := n) (g := g) (o := o) (c' := c') (w := w) (W := W) (ps := ps) (svs := svs) (op := op) (x := (n : Int) + 1) (As := As) (A' := A') (cs := cs) (cc := cc) (s := s) h0 hbk hn hB h3 hXS h5)
  rw [hx] at hXS HPUSH
  have HXS : Hid (Own w.drew 37 4 (.slice As n cs) n XS) := hXS
  have HWS : Hid (∀ k, (Value.slice As n cs).ownBlock = some k → k < w.heap.size) := fun k hk => hXS.lt hk
  have HB0 : Hid (B0 ≤ w.drew.heap.size) := hB0
  have HNS : Hid (¬ (Value.slice As n cs).ownBlock = some m) := fun e => own_ne_blk_ hXS hbk (by decide) e
  have HWR : Hid (IntKind.i64.wrap ((n : Int) + 1) = (n : Int) + 1) := by show _ = _; rw [IntKind.wrap_i64]; omega
  have HBK := Lib.hid hbk
  have hml : m < w.drew.heap.size := hbk.lt
  have y0 : w.drew.cell? ⟨m, 0, none⟩ = some (.slice As n cs) := hbk.cell 0
  clear hM0 hbk hB h3 hXS h5 hx hn hr hbs hB0
  go_enter Try.func22, Try.ntmps22
  go_upto_region 1 with fail
  refine region_tailo 19 (by kernel_rfl) (by kernel_rfl) (Only (fun k => (Value.slice As n cs).ownBlock = some k))
    [.val (.pointer (some ⟨m, 0, none⟩)),
     .val (.pointer (some ⟨m, 0, none⟩)),
     .val (.pointer (some ⟨m, 0, none⟩)),
     .val (.pointer (some ⟨m, 0, none⟩)),
     .val (.slice As n cs),
     .val (.int .i64 op),
     .val (.slice A (s.length) c),
     setRow w.heap.size (Value.slice As n cs).ownBlock s HWS.out,
     .val (.pointer (some ⟨m, 0, none⟩)),
     .val (.pointer (some ⟨m, 0, none⟩)),
     .val (.pointer (some ⟨m, 0, none⟩)),
     .val (.slice As n cs),
     .val (.int .i64 (n : Int)),
     .val (.int .i64 ((n : Int) + 1)),
     insRow1 w.heap.size (Value.slice As n cs).ownBlock op n s HWS.out,
     insRow2 w.heap.size (Value.slice As n cs).ownBlock op n s HWS.out,
     .any,
     .val (.pointer (some ⟨m, 0, none⟩)),
     .val (.pointer (some ⟨m, 0, none⟩))]
    (fun W => Only.refl _ W) (fun _ _ _ h k => h.trans k (fun _ _ h => h)) (by kernel_rfl) (⟨16, fun W => Own W 37 4 (.slice As n cs) n XS, fun v W => ∃ g o c' A' cc, v = .slice (some ⟨g, o, none⟩) (n + 1) c' ∧ Own W 37 4 (.slice (some ⟨g, o, none⟩) (n + 1) c') (n + 1) (XS ++ [.int .i64 op, .slice A' s.length cc, .int .i64 ((n : Int) + 1), .int .i64 0]) ∧ SetV W (.slice A' s.length cc) s ∧ ((Value.slice As n cs).ownBlock = some g ∨ w.heap.size ≤ g)⟩) (by show (16 : Nat) < 19; decide) (HXS.out) (by kernel_rfl) ?_ ?_
  · refine ⟨?_, ?_, ?_, ?_, ?_, ?_, ?_, ?_, ?_, ?_, ?_, ?_, ?_, ?_, ?_, ?_, ?_, ?_, ?_, trivial⟩
    · intro ra RW hR hO hk hd K hK
      obtain ⟨e0, g0⟩ := hk 0 (.pointer (some ⟨m, 0, none⟩)) (by kernel_rfl) rfl
      clear hk hd
      have HR := Lib.hid hR
      clear hR
      have HO := Lib.hid hO
      clear hO
      go_simp
      exact hK _ _ (Only.refl _ _) rfl (fun h => absurd h (by show ¬ ((0 : Nat) = 16); decide)) (fun _ => ⟨id, fun _ => id⟩)
    · intro ra RW hR hO hk hd K hK
      obtain ⟨e0, g0⟩ := hk 0 (.pointer (some ⟨m, 0, none⟩)) (by kernel_rfl) rfl
      clear hk hd
      have HR := Lib.hid hR
      clear hR
      have HO := Lib.hid hO
      clear hO
      go_simp
      exact hK _ _ (Only.refl _ _) rfl (fun h => absurd h (by show ¬ ((1 : Nat) = 16); decide)) (fun _ => ⟨id, fun _ => id⟩)
    · intro ra RW hR hO hk hd K hK
      obtain ⟨v8, e8, g8, f8⟩ := hd 1 8 (by kernel_rfl) rfl
      have f8 : v8 = .pointer (some ⟨m, 0, none⟩) := f8
      subst f8
      clear hk hd
      have HR := Lib.hid hR
      clear hR
      have HO := Lib.hid hO
      clear hO
      go_simp
      exact hK _ _ (Only.refl _ _) rfl (fun h => absurd h (by show ¬ ((2 : Nat) = 16); decide)) (fun _ => ⟨id, fun _ => id⟩)
    · intro ra RW hR hO hk hd K hK
      obtain ⟨v9, e9, g9, f9⟩ := hd 2 9 (by kernel_rfl) rfl
      have f9 : v9 = .pointer (some ⟨m, 0, none⟩) := f9
      subst f9
      clear hk hd
      have HR := Lib.hid hR
      clear hR
      have HO := Lib.hid hO
      clear hO
      go_simp
      exact hK _ _ (Only.refl _ _) rfl (fun h => absurd h (by show ¬ ((3 : Nat) = 16); decide)) (fun _ => ⟨id, fun _ => id⟩)
    · intro ra RW hR hO hk hd K hK
      obtain ⟨v10, e10, g10, f10⟩ := hd 3 10 (by kernel_rfl) rfl
      have f10 : v10 = .pointer (some ⟨m, 0, none⟩) := f10
      subst f10
      clear hk hd
      have HR := Lib.hid hR
      clear hR
      have HO := Lib.hid hO
      clear hO
      have dd0 := (HR.out.cell (p := ⟨m, 0, none⟩) hml HNS.out).trans y0
      go_simp
      exact hK _ _ (Only.refl _ _) rfl (fun h => absurd h (by show ¬ ((4 : Nat) = 16); decide)) (fun _ => ⟨id, fun _ => id⟩)
    · intro ra RW hR hO hk hd K hK
      obtain ⟨e1, g1⟩ := hk 1 (.int .i64 op) (by kernel_rfl) rfl
      clear hk hd
      have HR := Lib.hid hR
      clear hR
      have HO := Lib.hid hO
      clear hO
      go_simp
      exact hK _ _ (Only.refl _ _) rfl (fun h => absurd h (by show ¬ ((5 : Nat) = 16); decide)) (fun _ => ⟨id, fun _ => id⟩)
    · intro ra RW hR hO hk hd K hK
      obtain ⟨e2, g2⟩ := hk 2 (.slice A (s.length) c) (by kernel_rfl) rfl
      clear hk hd
      have HR := Lib.hid hR
      clear hR
      have HO := Lib.hid hO
      clear hO
      go_simp
      exact hK _ _ (Only.refl _ _) rfl (fun h => absurd h (by show ¬ ((6 : Nat) = 16); decide)) (fun _ => ⟨id, fun _ => id⟩)
    · intro ra RW hR hO hk hd K hK
      obtain ⟨v13, e13, g13, f13⟩ := hd 6 13 (by kernel_rfl) rfl
      have f13 : v13 = .slice A (s.length) c := f13
      subst f13
      clear hk hd
      have HR := Lib.hid hR
      clear hR
      have HO := Lib.hid hO
      clear hO
      go_simp
      refine (clone_any A s.length c B0 s RW (HSR.out RW HR.out) (Nat.le_trans HB0.out HR.out.size) (by omega)).mono ?_
      rintro e1 w1 ⟨v, rfl, hown, hk1, hb1⟩
      obtain ⟨A', cc, rfl, -, -⟩ := hown.len_
      exact hK _ w1 ((Only.of_below hb1).mono (fun k hk h => absurd hk (by omega))) ⟨A', cc, rfl, hown, fun k hk => Nat.le_trans HR.out.size (hk1 k hk)⟩ (fun h => absurd h (by show ¬ ((7 : Nat) = 16); decide)) (fun _ => ⟨fun h => h.below hb1 (fun k hk => h.lt hk), fun v ⟨g, o, c', A', cc, e, h1, h2, h3⟩ => ⟨g, o, c', A', cc, e, h1.below hb1 (fun k hk => h1.lt hk), h2.below hb1, h3⟩⟩)
    · intro ra RW hR hO hk hd K hK
      obtain ⟨e0, g0⟩ := hk 0 (.pointer (some ⟨m, 0, none⟩)) (by kernel_rfl) rfl
      clear hk hd
      have HR := Lib.hid hR
      clear hR
      have HO := Lib.hid hO
      clear hO
      go_simp
      exact hK _ _ (Only.refl _ _) rfl (fun h => absurd h (by show ¬ ((8 : Nat) = 16); decide)) (fun _ => ⟨id, fun _ => id⟩)
    · intro ra RW hR hO hk hd K hK
      obtain ⟨v15, e15, g15, f15⟩ := hd 8 15 (by kernel_rfl) rfl
      have f15 : v15 = .pointer (some ⟨m, 0, none⟩) := f15
      subst f15
      clear hk hd
      have HR := Lib.hid hR
      clear hR
      have HO := Lib.hid hO
      clear hO
      go_simp
      exact hK _ _ (Only.refl _ _) rfl (fun h => absurd h (by show ¬ ((9 : Nat) = 16); decide)) (fun _ => ⟨id, fun _ => id⟩)
    · intro ra RW hR hO hk hd K hK
      obtain ⟨v16, e16, g16, f16⟩ := hd 9 16 (by kernel_rfl) rfl
      have f16 : v16 = .pointer (some ⟨m, 0, none⟩) := f16
      subst f16
      clear hk hd
      have HR := Lib.hid hR
      clear hR
      have HO := Lib.hid hO
      clear hO
      go_simp
      exact hK _ _ (Only.refl _ _) rfl (fun h => absurd h (by show ¬ ((10 : Nat) = 16); decide)) (fun _ => ⟨id, fun _ => id⟩)
    · intro ra RW hR hO hk hd K hK
      obtain ⟨v17, e17, g17, f17⟩ := hd 10 17 (by kernel_rfl) rfl
      have f17 : v17 = .pointer (some ⟨m, 0, none⟩) := f17
      subst f17
      clear hk hd
      have HR := Lib.hid hR
      clear hR
      have HO := Lib.hid hO
      clear hO
      have dd0 := (HR.out.cell (p := ⟨m, 0, none⟩) hml HNS.out).trans y0
      go_simp
      exact hK _ _ (Only.refl _ _) rfl (fun h => absurd h (by show ¬ ((11 : Nat) = 16); decide)) (fun _ => ⟨id, fun _ => id⟩)
    · intro ra RW hR hO hk hd K hK
      obtain ⟨v18, e18, g18, f18⟩ := hd 11 18 (by kernel_rfl) rfl
      have f18 : v18 = .slice As n cs := f18
      subst f18
      clear hk hd
      have HR := Lib.hid hR
      clear hR
      have HO := Lib.hid hO
      clear hO
      go_simp
      exact hK _ _ (Only.refl _ _) rfl (fun h => absurd h (by show ¬ ((12 : Nat) = 16); decide)) (fun _ => ⟨id, fun _ => id⟩)
    · intro ra RW hR hO hk hd K hK
      obtain ⟨v19, e19, g19, f19⟩ := hd 12 19 (by kernel_rfl) rfl
      have f19 : v19 = .int .i64 (n : Int) := f19
      subst f19
      clear hk hd
      have HR := Lib.hid hR
      clear hR
      have HO := Lib.hid hO
      clear hO
      go_simp
      have hwr := HWR.out
      rw [hwr]
      exact hK _ _ (Only.refl _ _) rfl (fun h => absurd h (by show ¬ ((13 : Nat) = 16); decide)) (fun _ => ⟨id, fun _ => id⟩)
    · intro ra RW hR hO hk hd K hK
      obtain ⟨v12, e12, g12, f12⟩ := hd 5 12 (by kernel_rfl) rfl
      have f12 : v12 = .int .i64 op := f12
      subst f12
      obtain ⟨v14, e14, g14, f14⟩ := hd 7 14 (by kernel_rfl) rfl
      have F14 := Lib.hid f14
      clear f14
      obtain ⟨v20, e20, g20, f20⟩ := hd 13 20 (by kernel_rfl) rfl
      have f20 : v20 = .int .i64 ((n : Int) + 1) := f20
      subst f20
      clear hk hd
      have HR := Lib.hid hR
      clear hR
      have HO := Lib.hid hO
      clear hO
      obtain ⟨A', cc, rfl, hs1, hs2⟩ := F14.out
      have HS1 := Lib.hid hs1
      have HS2 := Lib.hid hs2
      clear hs1 hs2 F14
      go_simp
      exact hK _ _ (Only.refl _ _) ⟨A', cc, rfl, HS1.out, HS2.out⟩ (fun h => absurd h (by show ¬ ((14 : Nat) = 16); decide)) (fun _ => ⟨id, fun _ => id⟩)
    · intro ra RW hR hO hk hd K hK
      obtain ⟨v21, e21, g21, f21⟩ := hd 14 21 (by kernel_rfl) rfl
      have F21 := Lib.hid f21
      clear f21
      clear hk hd
      have HR := Lib.hid hR
      clear hR
      have HO := Lib.hid hO
      clear hO
      obtain ⟨A', cc, rfl, hs1, hs2⟩ := F21.out
      have HS1 := Lib.hid hs1
      have HS2 := Lib.hid hs2
      clear hs1 hs2 F21
      go_simp
      have hba := below_al (Below.refl _ RW) (.cells #[.int .i64 op, .slice A' s.length cc, .int .i64 ((n : Int) + 1), .int .i64 0] 37)
      exact hK _ _ ((Only.refl _ RW).alloc _) (insRow2_mk HWS.out RW HR.out.size HS1.out HS2.out) (fun h => absurd h (by show ¬ ((15 : Nat) = 16); decide)) (fun _ => ⟨fun h => h.below hba (fun k hk => h.lt hk), fun v ⟨g, o, c', A', cc, e, h1, h2, h3⟩ => ⟨g, o, c', A', cc, e, h1.below hba (fun k hk => h1.lt hk), h2.below hba, h3⟩⟩)
    · intro ra RW hR hO hk hd K hK
      obtain ⟨v11, e11, g11, f11⟩ := hd 4 11 (by kernel_rfl) rfl
      have f11 : v11 = .slice As n cs := f11
      subst f11
      obtain ⟨v22, e22, g22, f22⟩ := hd 15 22 (by kernel_rfl) rfl
      have F22 := Lib.hid f22
      clear f22
      clear hk hd
      have HR := Lib.hid hR
      clear hR
      have HO := Lib.hid hO
      clear hO
      obtain ⟨g2, A', cc, rfl, hg2, hb2, hs1, hs2⟩ := F22.out
      have hpre := HO.out rfl
      refine step_append_mine RW rfl (.tmp 11) (.tmp 22) _ rfl 37 i0 _ 4 48 Try.underlying22 hi0 hz0 hz1 hz2 rfl (by omega) (.slice As n cs) n XS (by exact g11) hpre ⟨g2, 0, none⟩ 1 1 [.int .i64 op, .slice A' s.length cc, .int .i64 ((n : Int) + 1), .int .i64 0] (by exact g22) rfl (by exact World.news_of_block hb2) (by simp [Value.oneCell']) (by omega) (by simp only [maxLen]; omega) (by omega) _ rfl ?_
      intro g5 o5 c5 w5 hown5 hgrow5 hat5
      exact hK _ w5 ((Only.refl _ RW).grown hgrow5 (fun k hk _ => hk)) trivial (fun _ => ⟨g5, o5, c5, A', cc, rfl, hown5, Own.grown hs1 hgrow5 (fun k hk e => own_ne_ hs1 hpre (by decide) hk e), hat5.elim .inl (fun h => .inr (by rw [h]; exact HR.out.size))⟩) (fun h => absurd rfl h)
    · intro ra RW hR hO hk hd K hK
      obtain ⟨v7, e7, g7, f7⟩ := hd 0 7 (by kernel_rfl) rfl
      have f7 : v7 = .pointer (some ⟨m, 0, none⟩) := f7
      subst f7
      clear hk hd
      have HR := Lib.hid hR
      clear hR
      have HO := Lib.hid hO
      clear hO
      go_simp
      exact hK _ _ (Only.refl _ _) rfl (fun h => absurd h (by show ¬ ((17 : Nat) = 16); decide)) (fun _ => ⟨id, fun _ => id⟩)
    · intro ra RW hR hO hk hd K hK
      obtain ⟨v24, e24, g24, f24⟩ := hd 17 24 (by kernel_rfl) rfl
      have f24 : v24 = .pointer (some ⟨m, 0, none⟩) := f24
      subst f24
      clear hk hd
      have HR := Lib.hid hR
      clear hR
      have HO := Lib.hid hO
      clear hO
      go_simp
      exact hK _ _ (Only.refl _ _) rfl (fun h => absurd h (by show ¬ ((18 : Nat) = 16); decide)) (fun _ => ⟨id, fun _ => id⟩)
  intro vs RW hR hPO hF
  have q0 : vs 0 = .pointer (some ⟨m, 0, none⟩) := hF 0 (by decide)
  have q1 : vs 1 = .pointer (some ⟨m, 0, none⟩) := hF 1 (by decide)
  have q2 : vs 2 = .pointer (some ⟨m, 0, none⟩) := hF 2 (by decide)
  have q3 : vs 3 = .pointer (some ⟨m, 0, none⟩) := hF 3 (by decide)
  have q4 : vs 4 = .slice As n cs := hF 4 (by decide)
  have q5 : vs 5 = .int .i64 op := hF 5 (by decide)
  have q6 : vs 6 = .slice A (s.length) c := hF 6 (by decide)
  have F14 := Lib.hid (hF 7 (by decide))
  have q8 : vs 8 = .pointer (some ⟨m, 0, none⟩) := hF 8 (by decide)
  have q9 : vs 9 = .pointer (some ⟨m, 0, none⟩) := hF 9 (by decide)
  have q10 : vs 10 = .pointer (some ⟨m, 0, none⟩) := hF 10 (by decide)
  have q11 : vs 11 = .slice As n cs := hF 11 (by decide)
  have q12 : vs 12 = .int .i64 (n : Int) := hF 12 (by decide)
  have q13 : vs 13 = .int .i64 ((n : Int) + 1) := hF 13 (by decide)
  have F21 := Lib.hid (hF 14 (by decide))
  have F22 := Lib.hid (hF 15 (by decide))
  have F23 := Lib.hid (hF 16 (by decide))
  have q17 : vs 17 = .pointer (some ⟨m, 0, none⟩) := hF 17 (by decide)
  have q18 : vs 18 = .pointer (some ⟨m, 0, none⟩) := hF 18 (by decide)
  simp only [List.take_succ_cons, List.take_zero, List.drop_succ_cons, List.drop_zero, setAll, List.setIfInBounds_toArray, List.set_cons_zero, List.set_cons_succ, q0, q1, q2, q3, q4, q5, q6, q8, q9, q10, q11, q12, q13, q17, q18]
  clear hF q0 q1 q2 q3 q4 q5 q6 q8 q9 q10 q11 q12 q13 q17 q18
  generalize vs 7 = v14 at *
  generalize vs 14 = v21 at *
  generalize vs 15 = v22 at *
  generalize vs 16 = v23 at *
  clear vs
  obtain ⟨g5, o5, c5, A5, cc5, hv5, ho5, hs5, hg5⟩ := hPO
  have HOW : Hid (Only (fun k => (Value.slice As n cs).ownBlock = some k) w RW) := ⟨hR.os, hR.tape, hR.output, hR.size, hR.block⟩
  obtain ⟨hmk, hfr⟩ := HPUSH.out RW g5 o5 c5 A5 cc5 HOW.out ho5 hs5 hg5
  have HMK := Lib.hid hmk
  have HFR := Lib.hid hfr
  have HBKR := Lib.hid (HBK.out.only HOW.out HNS.out)
  subst hv5
  clear hR ho5 hs5 hg5 hmk hfr F14 F21 F22 F23
  have z0 := HBKR.out.cell 0
  have z1 := HBKR.out.frozen 0
  have hmr := HBKR.out.lt
  simp only [List.getElem?_toArray, List.getElem?_cons_zero] at z0
  go_wp2_with fail
  go_ret
  exact ⟨rfl, HMK.out, HFR.out⟩
end Go.Proofs.Ytgfienopijlnkaa
