/-
  The contract of the tree's function Add, first half; no condition beyond those that each theorem states.
-/
import Derived.Test.YtddklpphcfgooaaTreeQ
namespace Go.Proofs.Ytddklpphcfgooaa
open Go.RowKit Go.Rb

theorem infoN : (Try.prog.info? 52).map (fun i => (i.zero, i.size, i.bytes)) = some (some (.agg #[.int .i64 0, .int .i64 0, .slice none 0 0]), 3, 40) := by kernel_rfl

set_option maxRecDepth 20000 in
set_option maxHeartbeats 4000000 in
theorem add_any {S : Nat → Prop} {t : Nat} {s : TS} (i : Int) (w : World) (hR : Rep w S t s) (hi : thereB s i) (hn : s.n < 256) (hkb : (s.ki.getD i.toNat []).length ≤ 256) :
    Calls Try.prog 10 #[pp t, .int .i64 i] w fun e w' => e = .returned (.tuple #[.int .i64 (s.n : Int), .int .i64 0]) ∧ Only S w w' ∧ ∃ S', (∀ q, S' q → S q ∨ w.heap.size ≤ q) ∧ Rep w' S' t (addS s i.toNat) := by
  obtain ⟨i0, hi0, hz0, hz1, hz2⟩ := info_parts infoN
  obtain ⟨j0, hj0, hjz0, hjz1, hjz2⟩ := info_parts info3
  obtain ⟨av, ks, h⟩ := hR
  have HC := Lib.hid (there_any i w h)
  rw [decide_eq_true hi] at HC
  obtain ⟨h1, h2⟩ := hi
  obtain ⟨k, rfl⟩ := Int.eq_ofNat_of_zero_le h1
  have hk : k < s.n := by omega
  rw [Int.toNat_natCast] at hkb ⊢
  have c0 := h.c0
  obtain ⟨g, off, cap, rfl, cu, cc, ck, cf, sg, gt⟩ := h.aform hk
  have HAO : Hid (∀ W, Below w.drew.heap.size w.drew W → Own W 52 3 (.slice (some ⟨g, off, none⟩) s.n cap) s.n (flat3 (s.row ks) s.n)) := fun W hW => (show Own w.drew _ _ _ _ _ from h.ao).below hW fun _ hk => h.ao.lt hk
  have HF : Hid (∀ W, Below w.drew.heap.size w.drew W → W.cell? ⟨t, 0, none⟩ = some (.slice (some ⟨g, off, none⟩) s.n cap) ∧ W.cell? ⟨g, off + k * 3 + 1, none⟩ = some (.int .i64 (s.ca.getD k 0))) := fun W hW =>
    ⟨(hW.cell (p := ⟨t, 0, none⟩) (h.lt t h.st)).trans c0, (hW.cell (p := ⟨g, off + k * 3 + 1, none⟩) (h.lt g sg)).trans cc⟩
  have HGL : Hid (∀ q, (Value.slice (some ⟨g, off, none⟩) s.n cap).ownBlock = some q → q < w.heap.size) := fun q hq => h.lt q (h.sa q hq)
  have HTL : Hid (t < w.heap.size) := h.lt t h.st
  have HTB : Hid (Blk w.drew t 55 #[.slice (some ⟨g, off, none⟩) s.n cap]) := h.tb
  have HNT : Hid ((Value.slice (some ⟨g, off, none⟩) s.n cap).ownBlock ≠ some t) := own_ne_blk h.ao h.tb (by decide)
  have l2 : (s.n : Int) < 256 := by omega
  have hn2 : s.n < 256 := hn
  have HH := Lib.hid h
  clear h cu ck cf sg gt cc
  generalize hxs : flat3 (s.row ks) s.n = xs at *
  generalize hzz : s.ca.getD k 0 = z at *
  generalize hnn : s.n = n at *
  have HXS := Lib.hid hxs; have HZZ := Lib.hid hzz; have HNN := Lib.hid hnn
  clear hxs hzz hnn
  unfold pp at HC ⊢
  go_enter Try.func10, Try.ntmps10
  go_wp2_with (go_at_call 20; refine HC.out.mono ?_; rintro e1 w1 ⟨rfl, rfl⟩)
  refine region_vals (by kernel_rfl) (Only (fun q => q < w.heap.size))
    [.val (.pointer (some ⟨t, 0, none⟩)),
     .val (.pointer (some ⟨t, 0, none⟩)),
     .val (.pointer (some ⟨t, 0, none⟩)),
     .val (.pointer (some ⟨t, 0, none⟩)),
     .val (.slice (some ⟨g, off, none⟩) n cap),
     .val (.int .i64 (k : Int)),
     .val (.pointer (some ⟨t, 0, none⟩)),
     .val (.pointer (some ⟨t, 0, none⟩)),
     .val (.pointer (some ⟨t, 0, none⟩)),
     .val (.slice (some ⟨g, off, none⟩) n cap),
     .val (.int .i64 (k : Int)),
     .val (.pointer (some ⟨g, off + k * 3, none⟩)),
     .val (.pointer (some ⟨g, off + k * 3 + 1, none⟩)),
     .val (.int .i64 z),
     .val (.agg #[.int .i64 (k : Int), .int .i64 z, .slice none 0 0]),
     ⟨fun v W => ∃ g9, v = .slice (some ⟨g9, 0, none⟩) 1 1 ∧ w.heap.size ≤ g9 ∧ W.heap[g9]? = some (.cells #[.int .i64 (k : Int), .int .i64 z, .slice none 0 0] 52 (0, 0)), fun v W W' ⟨g9, e, hl, hb⟩ hR => ⟨g9, e, hl, (hR.block g9 (Array.getElem?_eq_some_iff.1 hb).1 (by omega)).trans hb⟩⟩,
     .any,
     .val (.pointer (some ⟨t, 0, none⟩)),
     .val (.pointer (some ⟨t, 0, none⟩)),
     .any]
    (⟨16, fun W => Below w.drew.heap.size w.drew W, fun v W => AddMid w.drew t W v (Value.slice (some ⟨g, off, none⟩) n cap) n xs (.int .i64 (k : Int)) (.int .i64 z)⟩) (⟨19, fun W => Blk W t 55 #[(Value.slice (some ⟨g, off, none⟩) n cap)], fun _ W => ∃ v W3, AddMid w.drew t W3 v (Value.slice (some ⟨g, off, none⟩) n cap) n xs (.int .i64 (k : Int)) (.int .i64 z) ∧ Blk W3 t 55 #[(Value.slice (some ⟨g, off, none⟩) n cap)] ∧ W = W3.setCell ⟨t, 0, none⟩ v⟩) (fun W => Only.refl _ W) (fun _ _ _ h k => h.trans k (fun _ _ h => h)) (by kernel_rfl) (Below.refl _ _) (HTB.out) ⟨Nat.le_of_ble_eq_true rfl, Nat.le_of_ble_eq_true rfl⟩ ?_ ?_
  · refine ⟨?_, ?_, ?_, ?_, ?_, ?_, ?_, ?_, ?_, ?_, ?_, ?_, ?_, ?_, ?_, ?_, ?_, ?_, ?_, ?_, trivial⟩
    · intro ra RW hR hsA hsB hk hd K hK
      have SA := Lib.hid hsA
      have SB := Lib.hid hsB
      clear hsA hsB
      obtain ⟨e0, g0⟩ := hk 0 (.pointer (some ⟨t, 0, none⟩)) (by kernel_rfl) rfl
      clear hk hd
      have HR := Lib.hid hR
      clear hR
      go_simp
      exact hK _ _ (Only.refl _ _) rfl (SA.out.same (Nat.ne_of_beq_eq_false rfl)) (SB.out.same (Nat.ne_of_beq_eq_false rfl))
    · intro ra RW hR hsA hsB hk hd K hK
      have SA := Lib.hid hsA
      have SB := Lib.hid hsB
      clear hsA hsB
      have hpre : Below w.drew.heap.size w.drew RW := SA.out.early (by kernel_rfl)
      obtain ⟨y0, y1⟩ := HF.out RW hpre
      have HPRE := Lib.hid hpre; have HPS : Hid (w.heap.size ≤ RW.heap.size) := hpre.size
      obtain ⟨e0, g0⟩ := hk 0 (.pointer (some ⟨t, 0, none⟩)) (by kernel_rfl) rfl
      clear hk hd
      have HR := Lib.hid hR
      clear hR
      go_simp
      exact hK _ _ (Only.refl _ _) rfl (SA.out.same (Nat.ne_of_beq_eq_false rfl)) (SB.out.same (Nat.ne_of_beq_eq_false rfl))
    · intro ra RW hR hsA hsB hk hd K hK
      have SA := Lib.hid hsA
      have SB := Lib.hid hsB
      clear hsA hsB
      have hpre : Below w.drew.heap.size w.drew RW := SA.out.early (by kernel_rfl)
      obtain ⟨y0, y1⟩ := HF.out RW hpre
      have HPRE := Lib.hid hpre; have HPS : Hid (w.heap.size ≤ RW.heap.size) := hpre.size
      obtain ⟨v25, e25, g25, f25⟩ := hd 1 25 (by kernel_rfl) rfl
      have f25 : v25 = .pointer (some ⟨t, 0, none⟩) := f25
      subst f25
      clear hk hd
      have HR := Lib.hid hR
      clear hR
      go_simp
      exact hK _ _ (Only.refl _ _) rfl (SA.out.same (Nat.ne_of_beq_eq_false rfl)) (SB.out.same (Nat.ne_of_beq_eq_false rfl))
    · intro ra RW hR hsA hsB hk hd K hK
      have SA := Lib.hid hsA
      have SB := Lib.hid hsB
      clear hsA hsB
      have hpre : Below w.drew.heap.size w.drew RW := SA.out.early (by kernel_rfl)
      obtain ⟨y0, y1⟩ := HF.out RW hpre
      have HPRE := Lib.hid hpre; have HPS : Hid (w.heap.size ≤ RW.heap.size) := hpre.size
      obtain ⟨v26, e26, g26, f26⟩ := hd 2 26 (by kernel_rfl) rfl
      have f26 : v26 = .pointer (some ⟨t, 0, none⟩) := f26
      subst f26
      clear hk hd
      have HR := Lib.hid hR
      clear hR
      go_simp
      exact hK _ _ (Only.refl _ _) rfl (SA.out.same (Nat.ne_of_beq_eq_false rfl)) (SB.out.same (Nat.ne_of_beq_eq_false rfl))
    · intro ra RW hR hsA hsB hk hd K hK
      have SA := Lib.hid hsA
      have SB := Lib.hid hsB
      clear hsA hsB
      have hpre : Below w.drew.heap.size w.drew RW := SA.out.early (by kernel_rfl)
      obtain ⟨y0, y1⟩ := HF.out RW hpre
      have HPRE := Lib.hid hpre; have HPS : Hid (w.heap.size ≤ RW.heap.size) := hpre.size
      obtain ⟨v27, e27, g27, f27⟩ := hd 3 27 (by kernel_rfl) rfl
      have f27 : v27 = .pointer (some ⟨t, 0, none⟩) := f27
      subst f27
      clear hk hd
      have HR := Lib.hid hR
      clear hR
      go_simp
      exact hK _ _ (Only.refl _ _) rfl (SA.out.same (Nat.ne_of_beq_eq_false rfl)) (SB.out.same (Nat.ne_of_beq_eq_false rfl))
    · intro ra RW hR hsA hsB hk hd K hK
      have SA := Lib.hid hsA
      have SB := Lib.hid hsB
      clear hsA hsB
      have hpre : Below w.drew.heap.size w.drew RW := SA.out.early (by kernel_rfl)
      obtain ⟨y0, y1⟩ := HF.out RW hpre
      have HPRE := Lib.hid hpre; have HPS : Hid (w.heap.size ≤ RW.heap.size) := hpre.size
      obtain ⟨e1, g1⟩ := hk 1 (.int .i64 (k : Int)) (by kernel_rfl) rfl
      clear hk hd
      have HR := Lib.hid hR
      clear hR
      go_simp
      exact hK _ _ (Only.refl _ _) rfl (SA.out.same (Nat.ne_of_beq_eq_false rfl)) (SB.out.same (Nat.ne_of_beq_eq_false rfl))
    · intro ra RW hR hsA hsB hk hd K hK
      have SA := Lib.hid hsA
      have SB := Lib.hid hsB
      clear hsA hsB
      have hpre : Below w.drew.heap.size w.drew RW := SA.out.early (by kernel_rfl)
      obtain ⟨y0, y1⟩ := HF.out RW hpre
      have HPRE := Lib.hid hpre; have HPS : Hid (w.heap.size ≤ RW.heap.size) := hpre.size
      obtain ⟨e0, g0⟩ := hk 0 (.pointer (some ⟨t, 0, none⟩)) (by kernel_rfl) rfl
      clear hk hd
      have HR := Lib.hid hR
      clear hR
      go_simp
      exact hK _ _ (Only.refl _ _) rfl (SA.out.same (Nat.ne_of_beq_eq_false rfl)) (SB.out.same (Nat.ne_of_beq_eq_false rfl))
    · intro ra RW hR hsA hsB hk hd K hK
      have SA := Lib.hid hsA
      have SB := Lib.hid hsB
      clear hsA hsB
      have hpre : Below w.drew.heap.size w.drew RW := SA.out.early (by kernel_rfl)
      obtain ⟨y0, y1⟩ := HF.out RW hpre
      have HPRE := Lib.hid hpre; have HPS : Hid (w.heap.size ≤ RW.heap.size) := hpre.size
      obtain ⟨v30, e30, g30, f30⟩ := hd 6 30 (by kernel_rfl) rfl
      have f30 : v30 = .pointer (some ⟨t, 0, none⟩) := f30
      subst f30
      clear hk hd
      have HR := Lib.hid hR
      clear hR
      go_simp
      exact hK _ _ (Only.refl _ _) rfl (SA.out.same (Nat.ne_of_beq_eq_false rfl)) (SB.out.same (Nat.ne_of_beq_eq_false rfl))
    · intro ra RW hR hsA hsB hk hd K hK
      have SA := Lib.hid hsA
      have SB := Lib.hid hsB
      clear hsA hsB
      have hpre : Below w.drew.heap.size w.drew RW := SA.out.early (by kernel_rfl)
      obtain ⟨y0, y1⟩ := HF.out RW hpre
      have HPRE := Lib.hid hpre; have HPS : Hid (w.heap.size ≤ RW.heap.size) := hpre.size
      obtain ⟨v31, e31, g31, f31⟩ := hd 7 31 (by kernel_rfl) rfl
      have f31 : v31 = .pointer (some ⟨t, 0, none⟩) := f31
      subst f31
      clear hk hd
      have HR := Lib.hid hR
      clear hR
      go_simp
      exact hK _ _ (Only.refl _ _) rfl (SA.out.same (Nat.ne_of_beq_eq_false rfl)) (SB.out.same (Nat.ne_of_beq_eq_false rfl))
    · intro ra RW hR hsA hsB hk hd K hK
      have SA := Lib.hid hsA
      have SB := Lib.hid hsB
      clear hsA hsB
      have hpre : Below w.drew.heap.size w.drew RW := SA.out.early (by kernel_rfl)
      obtain ⟨y0, y1⟩ := HF.out RW hpre
      have HPRE := Lib.hid hpre; have HPS : Hid (w.heap.size ≤ RW.heap.size) := hpre.size
      obtain ⟨v32, e32, g32, f32⟩ := hd 8 32 (by kernel_rfl) rfl
      have f32 : v32 = .pointer (some ⟨t, 0, none⟩) := f32
      subst f32
      clear hk hd
      have HR := Lib.hid hR
      clear hR
      go_simp
      exact hK _ _ (Only.refl _ _) rfl (SA.out.same (Nat.ne_of_beq_eq_false rfl)) (SB.out.same (Nat.ne_of_beq_eq_false rfl))
    · intro ra RW hR hsA hsB hk hd K hK
      have SA := Lib.hid hsA
      have SB := Lib.hid hsB
      clear hsA hsB
      have hpre : Below w.drew.heap.size w.drew RW := SA.out.early (by kernel_rfl)
      obtain ⟨y0, y1⟩ := HF.out RW hpre
      have HPRE := Lib.hid hpre; have HPS : Hid (w.heap.size ≤ RW.heap.size) := hpre.size
      obtain ⟨e1, g1⟩ := hk 1 (.int .i64 (k : Int)) (by kernel_rfl) rfl
      clear hk hd
      have HR := Lib.hid hR
      clear hR
      go_simp
      exact hK _ _ (Only.refl _ _) rfl (SA.out.same (Nat.ne_of_beq_eq_false rfl)) (SB.out.same (Nat.ne_of_beq_eq_false rfl))
    · intro ra RW hR hsA hsB hk hd K hK
      have SA := Lib.hid hsA
      have SB := Lib.hid hsB
      clear hsA hsB
      have hpre : Below w.drew.heap.size w.drew RW := SA.out.early (by kernel_rfl)
      obtain ⟨y0, y1⟩ := HF.out RW hpre
      have HPRE := Lib.hid hpre; have HPS : Hid (w.heap.size ≤ RW.heap.size) := hpre.size
      obtain ⟨v33, e33, g33, f33⟩ := hd 9 33 (by kernel_rfl) rfl
      have f33 : v33 = .slice (some ⟨g, off, none⟩) n cap := f33
      subst f33
      obtain ⟨v34, e34, g34, f34⟩ := hd 10 34 (by kernel_rfl) rfl
      have f34 : v34 = .int .i64 (k : Int) := f34
      subst f34
      clear hk hd
      have HR := Lib.hid hR
      clear hR
      go_simp
      exact hK _ _ (Only.refl _ _) rfl (SA.out.same (Nat.ne_of_beq_eq_false rfl)) (SB.out.same (Nat.ne_of_beq_eq_false rfl))
    · intro ra RW hR hsA hsB hk hd K hK
      have SA := Lib.hid hsA
      have SB := Lib.hid hsB
      clear hsA hsB
      have hpre : Below w.drew.heap.size w.drew RW := SA.out.early (by kernel_rfl)
      obtain ⟨y0, y1⟩ := HF.out RW hpre
      have HPRE := Lib.hid hpre; have HPS : Hid (w.heap.size ≤ RW.heap.size) := hpre.size
      obtain ⟨v35, e35, g35, f35⟩ := hd 11 35 (by kernel_rfl) rfl
      have f35 : v35 = .pointer (some ⟨g, off + k * 3, none⟩) := f35
      subst f35
      clear hk hd
      have HR := Lib.hid hR
      clear hR
      go_simp
      exact hK _ _ (Only.refl _ _) rfl (SA.out.same (Nat.ne_of_beq_eq_false rfl)) (SB.out.same (Nat.ne_of_beq_eq_false rfl))
    · intro ra RW hR hsA hsB hk hd K hK
      have SA := Lib.hid hsA
      have SB := Lib.hid hsB
      clear hsA hsB
      have hpre : Below w.drew.heap.size w.drew RW := SA.out.early (by kernel_rfl)
      obtain ⟨y0, y1⟩ := HF.out RW hpre
      have HPRE := Lib.hid hpre; have HPS : Hid (w.heap.size ≤ RW.heap.size) := hpre.size
      obtain ⟨v36, e36, g36, f36⟩ := hd 12 36 (by kernel_rfl) rfl
      have f36 : v36 = .pointer (some ⟨g, off + k * 3 + 1, none⟩) := f36
      subst f36
      clear hk hd
      have HR := Lib.hid hR
      clear hR
      go_simp
      exact hK _ _ (Only.refl _ _) rfl (SA.out.same (Nat.ne_of_beq_eq_false rfl)) (SB.out.same (Nat.ne_of_beq_eq_false rfl))
    · intro ra RW hR hsA hsB hk hd K hK
      have SA := Lib.hid hsA
      have SB := Lib.hid hsB
      clear hsA hsB
      have hpre : Below w.drew.heap.size w.drew RW := SA.out.early (by kernel_rfl)
      obtain ⟨y0, y1⟩ := HF.out RW hpre
      have HPRE := Lib.hid hpre; have HPS : Hid (w.heap.size ≤ RW.heap.size) := hpre.size
      obtain ⟨v29, e29, g29, f29⟩ := hd 5 29 (by kernel_rfl) rfl
      have f29 : v29 = .int .i64 (k : Int) := f29
      subst f29
      obtain ⟨v37, e37, g37, f37⟩ := hd 13 37 (by kernel_rfl) rfl
      have f37 : v37 = .int .i64 z := f37
      subst f37
      clear hk hd
      have HR := Lib.hid hR
      clear hR
      go_simp
      exact hK _ _ (Only.refl _ _) rfl (SA.out.same (Nat.ne_of_beq_eq_false rfl)) (SB.out.same (Nat.ne_of_beq_eq_false rfl))
    · intro ra RW hR hsA hsB hk hd K hK
      have SA := Lib.hid hsA
      have SB := Lib.hid hsB
      clear hsA hsB
      have hpre : Below w.drew.heap.size w.drew RW := SA.out.early (by kernel_rfl)
      obtain ⟨y0, y1⟩ := HF.out RW hpre
      have HPRE := Lib.hid hpre; have HPS : Hid (w.heap.size ≤ RW.heap.size) := hpre.size
      obtain ⟨v38, e38, g38, f38⟩ := hd 14 38 (by kernel_rfl) rfl
      have f38 : v38 = .agg #[.int .i64 (k : Int), .int .i64 z, .slice none 0 0] := f38
      subst f38
      clear hk hd
      have HR := Lib.hid hR
      clear hR
      go_simp
      exact hK _ _ ((Only.refl _ _).alloc _) ⟨RW.heap.size, rfl, HPS.out, heap_alloc_new _ _⟩ (SideVOut.early (Nat.ne_of_beq_eq_false rfl) (by kernel_rfl) (below_al HPRE.out _)) (SideVOut.early (Nat.ne_of_beq_eq_false rfl) (by kernel_rfl) ((SB.out.early (by kernel_rfl)).alloc _))
    · intro ra RW hR hsA hsB hk hd K hK
      have SA := Lib.hid hsA
      have SB := Lib.hid hsB
      clear hsA hsB
      have hpre : Below w.drew.heap.size w.drew RW := SA.out.self rfl
      obtain ⟨v28, e28, g28, f28⟩ := hd 4 28 (by kernel_rfl) rfl
      have f28 : v28 = .slice (some ⟨g, off, none⟩) n cap := f28
      subst f28
      obtain ⟨v39, e39, g39, f39⟩ := hd 15 39 (by kernel_rfl) rfl
      have F39 := Lib.hid f39
      clear f39
      obtain ⟨g9, e9, hl9, hb9⟩ := F39.out
      subst e9
      have HPRE := Lib.hid hpre
      have HNEWS := Lib.hid (World.news_of_block hb9)
      clear hb9 hpre
      clear hk hd
      have HR := Lib.hid hR
      clear hR
      refine step_append_mine RW rfl (.tmp 28) (.tmp 39) _ rfl 52 i0 _ 3 40 Try.underlying53 hi0 hz0 hz1 hz2 rfl (by omega) (.slice (some ⟨g, off, none⟩) n cap) n xs (by exact g28) (HAO.out RW HPRE.out) ⟨g9, 0, none⟩ 1 1 [.int .i64 (k : Int), .int .i64 z, .slice none 0 0] (by exact g39) rfl HNEWS.out (by simp [Value.oneCell']) (by omega) (by simp only [maxLen]; omega) (by omega) _ rfl ?_
      intro g4 o4 c4 w4 ho4 hg4 hat4
      exact hK _ _ ((Only.of_grown hg4).mono (fun q _ hq => HGL.out q hq)) trivial (SideVOut.self rfl (addMid_of HPRE.out ho4 hg4 hat4)) (SideVOut.early (Nat.ne_of_beq_eq_false rfl) (by kernel_rfl) (Blk.grown (SB.out.early (by kernel_rfl)) hg4 (fun e => HNT.out e.symm)))
    · intro ra RW hR hsA hsB hk hd K hK
      have SA := Lib.hid hsA
      have SB := Lib.hid hsB
      clear hsA hsB
      obtain ⟨v24, e24, g24, f24⟩ := hd 0 24 (by kernel_rfl) rfl
      have f24 : v24 = .pointer (some ⟨t, 0, none⟩) := f24
      subst f24
      clear hk hd
      have HR := Lib.hid hR
      clear hR
      go_simp
      exact hK _ _ (Only.refl _ _) rfl (SA.out.same (Nat.ne_of_beq_eq_false rfl)) (SB.out.same (Nat.ne_of_beq_eq_false rfl))
    · intro ra RW hR hsA hsB hk hd K hK
      have SA := Lib.hid hsA
      have SB := Lib.hid hsB
      clear hsA hsB
      obtain ⟨v41, e41, g41, f41⟩ := hd 17 41 (by kernel_rfl) rfl
      have f41 : v41 = .pointer (some ⟨t, 0, none⟩) := f41
      subst f41
      clear hk hd
      have HR := Lib.hid hR
      clear hR
      go_simp
      exact hK _ _ (Only.refl _ _) rfl (SA.out.same (Nat.ne_of_beq_eq_false rfl)) (SB.out.same (Nat.ne_of_beq_eq_false rfl))
    · intro ra RW hR hsA hsB hk hd K hK
      have SA := Lib.hid hsA
      have SB := Lib.hid hsB
      clear hsA hsB
      obtain ⟨v42, e42, g42, f42⟩ := hd 18 42 (by kernel_rfl) rfl
      have f42 : v42 = .pointer (some ⟨t, 0, none⟩) := f42
      subst f42
      obtain ⟨v40, e40, g40, f40⟩ := hd 16 40 (by kernel_rfl) rfl
      have F40 := Lib.hid f40
      clear f40
      have hm : AddMid w.drew t RW v40 (Value.slice (some ⟨g, off, none⟩) n cap) n xs (.int .i64 (k : Int)) (.int .i64 z) := SA.out.late_at (Nat.ne_of_beq_eq_false rfl) (by kernel_rfl) (by kernel_rfl) (d := 40) rfl e40
      have hbt : Blk RW t 55 #[(Value.slice (some ⟨g, off, none⟩) n cap)] := SB.out.self rfl
      have hm2 := hm
      obtain ⟨g5, o5, c5, e5, -, -, -⟩ := hm2
      subst e5
      have yt0 : RW.cell? ⟨t, 0, none⟩ = some (Value.slice (some ⟨g, off, none⟩) n cap) := (by rw [hbt.cell]; rfl)
      have yt1 := hbt.frozen 0
      have HM5 := Lib.hid hm; have HB5 := Lib.hid hbt
      clear hm hbt
      clear hk hd
      have HR := Lib.hid hR
      clear hR
      go_simp
      exact hK undef _ ((Only.refl (fun q => q < w.heap.size) RW).setCell (p := ⟨t, 0, none⟩) (fun _ => HTL.out) _) trivial (SideVOut.late (Nat.ne_of_beq_eq_false rfl) (by kernel_rfl) (by kernel_rfl) (fun u hu => AddMid.set hu HB5.out _)) (SideVOut.self rfl ⟨_, RW, HM5.out, HB5.out, rfl⟩)
  intro vs RW hR hpA hpB hF
  clear hpA
  obtain ⟨ub, -, hpB⟩ := hpB
  have q0 : vs 0 = .pointer (some ⟨t, 0, none⟩) := hF 0 (by decide)
  have q1 : vs 1 = .pointer (some ⟨t, 0, none⟩) := hF 1 (by decide)
  have q2 : vs 2 = .pointer (some ⟨t, 0, none⟩) := hF 2 (by decide)
  have q3 : vs 3 = .pointer (some ⟨t, 0, none⟩) := hF 3 (by decide)
  have q4 : vs 4 = .slice (some ⟨g, off, none⟩) n cap := hF 4 (by decide)
  have q5 : vs 5 = .int .i64 (k : Int) := hF 5 (by decide)
  have q6 : vs 6 = .pointer (some ⟨t, 0, none⟩) := hF 6 (by decide)
  have q7 : vs 7 = .pointer (some ⟨t, 0, none⟩) := hF 7 (by decide)
  have q8 : vs 8 = .pointer (some ⟨t, 0, none⟩) := hF 8 (by decide)
  have q9 : vs 9 = .slice (some ⟨g, off, none⟩) n cap := hF 9 (by decide)
  have q10 : vs 10 = .int .i64 (k : Int) := hF 10 (by decide)
  have q11 : vs 11 = .pointer (some ⟨g, off + k * 3, none⟩) := hF 11 (by decide)
  have q12 : vs 12 = .pointer (some ⟨g, off + k * 3 + 1, none⟩) := hF 12 (by decide)
  have q13 : vs 13 = .int .i64 z := hF 13 (by decide)
  have q14 : vs 14 = .agg #[.int .i64 (k : Int), .int .i64 z, .slice none 0 0] := hF 14 (by decide)
  have F39 := Lib.hid (hF 15 (by decide))
  have F40 := Lib.hid (hF 16 (by decide))
  have q17 : vs 17 = .pointer (some ⟨t, 0, none⟩) := hF 17 (by decide)
  have q18 : vs 18 = .pointer (some ⟨t, 0, none⟩) := hF 18 (by decide)
  simp only [setAll, List.setIfInBounds_toArray, List.set_cons_zero, List.set_cons_succ, q0, q1, q2, q3, q4, q5, q6, q7, q8, q9, q10, q11, q12, q13, q14, q17, q18]
  clear hF q0 q1 q2 q3 q4 q5 q6 q7 q8 q9 q10 q11 q12 q13 q14 q17 q18
  generalize vs 15 = v39 at *
  generalize vs 16 = v40 at *
  clear vs
  obtain ⟨v, W3, hm, hb, e⟩ := hpB
  clear F39 F40 ub
  obtain ⟨W1, hW1⟩ : ∃ W1, W1 = RW := ⟨_, rfl⟩
  subst hW1
  have hnn := HNN.out; have hxs := HXS.out; have hzz := HZZ.out
  clear HNN HXS HZZ HAO HF HGL HTL HTB HNT c0
  subst hnn; subst hxs; subst hzz
  obtain ⟨hr, hO⟩ := AddMid.rep HH.out hn2 hm hb e
  have HKD : Hid ((addN s k).ki.getD k [] = s.ki.getD k []) := getD_snoc_lt (by have := HH.out.kl; omega)
  clear hm hb e hR HC
  have HO1 := Lib.hid hO
  have e1 : (addN s k).n = s.n + 1 := by simp [addN, TS.n]
  have hk1 : k < (addN s k).n := by omega
  have hkk : (if k = s.n then .slice none 0 0 else ks k) = ks k := if_neg (by omega)
  obtain ⟨g1, o1, c1, rfl, -, -, ck, cf, sg, gt⟩ := hr.aform hk1
  simp only [hkk] at ck
  have HPR : Hid (KidPre t (.slice (some ⟨g1, o1, none⟩) (addN s k).n c1) (addN s k).n (flat3 ((addN s k).row fun i => if i = s.n then .slice none 0 0 else ks i) (addN s k).n) W1.drew) := ⟨hr.tb, hr.ao⟩
  have HF : Hid (∀ W, KidPre t (.slice (some ⟨g1, o1, none⟩) (addN s k).n c1) (addN s k).n (flat3 ((addN s k).row fun i => if i = s.n then .slice none 0 0 else ks i) (addN s k).n) W → W.cell? ⟨t, 0, none⟩ = some (.slice (some ⟨g1, o1, none⟩) (addN s k).n c1) ∧ W.cell? ⟨g1, o1 + k * 3 + 2, none⟩ = some (ks k) ∧ ∀ j, W.frozen? ⟨g1, j, none⟩ = false) := fun W hW => by
    have := hW.read hk1
    simp only [hkk] at this
    exact this
  have hko := hr.ko k hk1
  simp only [hkk] at hko
  have hne1 : (ks k).ownBlock ≠ some t := own_ne_blk hko hr.tb (by decide)
  have hne2 : ∀ q, (Value.slice (some ⟨g1, o1, none⟩) (addN s k).n c1).ownBlock = some q → (ks k).ownBlock ≠ some q := own_ne' hr.ao hko (by decide)
  have HGL : Hid (∀ q, (ks k).ownBlock = some q → q < W1.heap.size) := fun q hq => hko.lt hq
  have HGG : Hid (g1 < W1.heap.size) := hr.lt g1 sg
  have HAO : Hid (∀ W, Below W1.drew.heap.size W1.drew W → Own W 3 1 (ks k) ((addN s k).ki.getD k []).length (((addN s k).ki.getD k []).map nV)) := fun W hW => (show Own W1.drew _ _ _ _ _ from hko).below hW fun _ hk => hko.lt hk
  have hkm : ((addN s k).ki.getD k []).length ≤ 1000000 := by rw [HKD.out]; omega
  obtain ⟨A, kc, hkv, -, -⟩ := hko.len_
  have HR1 := Lib.hid hr
  have HKV := Lib.hid hkv
  clear hr ck cf sg hkk hkv hko
  generalize hm : ((addN s k).ki.getD k []).length = m at *
  generalize hks : ((addN s k).ki.getD k []).map nV = kxs at *
  generalize hys : flat3 ((addN s k).row fun i => if i = s.n then .slice none 0 0 else ks i) (addN s k).n = ys at *
  have HM := Lib.hid hm; have HKS := Lib.hid hks; have HYS := Lib.hid hys
  clear hm hks hys
  generalize hkv2 : ks k = kv at *
  have HKV2 := Lib.hid hkv2
  clear hkv2
  generalize hn1 : (addN s k).n = n1 at *
  have HN1 := Lib.hid hn1
  clear hn1
  generalize hn0 : s.n = n at *
  have HN0 := Lib.hid hn0
  clear hn0
  have HNE1 := Lib.hid hne1; have HNE2 := Lib.hid hne2
  have hk2 : (k : Int) < (n1 : Int) := by omega
  clear hne1 hne2 e1
  have hkv := HKV.out
  subst hkv
  clear HKV
  go_wp2
  refine region_vals (by kernel_rfl) (Only (fun q => q < W1.heap.size))
    [.val (.pointer (some ⟨t, 0, none⟩)),
     .val (.pointer (some ⟨t, 0, none⟩)),
     .val (.pointer (some ⟨t, 0, none⟩)),
     .val ((Value.slice (some ⟨g1, o1, none⟩) n1 c1)),
     .val (.int .i64 (k : Int)),
     .val (.pointer (some ⟨t, 0, none⟩)),
     .val (.pointer (some ⟨t, 0, none⟩)),
     .val (.pointer (some ⟨t, 0, none⟩)),
     .val ((Value.slice (some ⟨g1, o1, none⟩) n1 c1)),
     .val (.int .i64 (k : Int)),
     .val (.pointer (some ⟨g1, o1 + k * 3, none⟩)),
     .val (.pointer (some ⟨g1, o1 + k * 3 + 2, none⟩)),
     .val ((Value.slice A m kc)),
     .val (.int .i64 (n : Int)),
     ⟨fun v W => ∃ g9, v = .slice (some ⟨g9, 0, none⟩) 1 1 ∧ W1.heap.size ≤ g9 ∧ W.heap[g9]? = some (.cells #[.int .i64 (n : Int)] 3 (0, 0)), fun v W W' ⟨g9, e, hl, hb⟩ hR => ⟨g9, e, hl, (hR.block g9 (Array.getElem?_eq_some_iff.1 hb).1 (by omega)).trans hb⟩⟩,
     .any,
     .val (.pointer (some ⟨g1, o1 + k * 3, none⟩)),
     .val (.pointer (some ⟨g1, o1 + k * 3 + 2, none⟩)),
     .any]
    (⟨15, fun W => Below W1.drew.heap.size W1.drew W, fun v W => KidMid W1.drew g1 W v (Value.slice A m kc) m kxs (.int .i64 (n : Int))⟩) (⟨18, fun W => KidPre t (Value.slice (some ⟨g1, o1, none⟩) n1 c1) n1 ys W, fun _ W => ∃ v W3, KidMid W1.drew g1 W3 v (Value.slice A m kc) m kxs (.int .i64 (n : Int)) ∧ KidPre t (Value.slice (some ⟨g1, o1, none⟩) n1 c1) n1 ys W3 ∧ W = W3.setCell ⟨g1, o1 + k * 3 + 2, none⟩ v⟩) (fun W => Only.refl _ W) (fun _ _ _ h k => h.trans k (fun _ _ h => h)) (by kernel_rfl) (Below.refl _ _) (HPR.out) ⟨Nat.le_of_ble_eq_true rfl, Nat.le_of_ble_eq_true rfl⟩ ?_ ?_
  · refine ⟨?_, ?_, ?_, ?_, ?_, ?_, ?_, ?_, ?_, ?_, ?_, ?_, ?_, ?_, ?_, ?_, ?_, ?_, ?_, trivial⟩
    · intro ra RW hR hsA hsB hk hd K hK
      have SA := Lib.hid hsA
      have SB := Lib.hid hsB
      clear hsA hsB
      have hpre := SB.out.early (by kernel_rfl)
      obtain ⟨y0, y1, y2⟩ := HF.out RW hpre
      have HPRE := Lib.hid hpre
      clear hpre
      obtain ⟨e0, g0⟩ := hk 0 (.pointer (some ⟨t, 0, none⟩)) (by kernel_rfl) rfl
      clear hk hd
      have HR := Lib.hid hR
      clear hR
      go_simp
      exact hK _ _ (Only.refl _ _) rfl (SA.out.same (Nat.ne_of_beq_eq_false rfl)) (SB.out.same (Nat.ne_of_beq_eq_false rfl))
    · intro ra RW hR hsA hsB hk hd K hK
      have SA := Lib.hid hsA
      have SB := Lib.hid hsB
      clear hsA hsB
      have hpre := SB.out.early (by kernel_rfl)
      obtain ⟨y0, y1, y2⟩ := HF.out RW hpre
      have HPRE := Lib.hid hpre
      clear hpre
      obtain ⟨v43, e43, g43, f43⟩ := hd 0 43 (by kernel_rfl) rfl
      have f43 : v43 = .pointer (some ⟨t, 0, none⟩) := f43
      subst f43
      clear hk hd
      have HR := Lib.hid hR
      clear hR
      go_simp
      exact hK _ _ (Only.refl _ _) rfl (SA.out.same (Nat.ne_of_beq_eq_false rfl)) (SB.out.same (Nat.ne_of_beq_eq_false rfl))
    · intro ra RW hR hsA hsB hk hd K hK
      have SA := Lib.hid hsA
      have SB := Lib.hid hsB
      clear hsA hsB
      have hpre := SB.out.early (by kernel_rfl)
      obtain ⟨y0, y1, y2⟩ := HF.out RW hpre
      have HPRE := Lib.hid hpre
      clear hpre
      obtain ⟨v44, e44, g44, f44⟩ := hd 1 44 (by kernel_rfl) rfl
      have f44 : v44 = .pointer (some ⟨t, 0, none⟩) := f44
      subst f44
      clear hk hd
      have HR := Lib.hid hR
      clear hR
      go_simp
      exact hK _ _ (Only.refl _ _) rfl (SA.out.same (Nat.ne_of_beq_eq_false rfl)) (SB.out.same (Nat.ne_of_beq_eq_false rfl))
    · intro ra RW hR hsA hsB hk hd K hK
      have SA := Lib.hid hsA
      have SB := Lib.hid hsB
      clear hsA hsB
      have hpre := SB.out.early (by kernel_rfl)
      obtain ⟨y0, y1, y2⟩ := HF.out RW hpre
      have HPRE := Lib.hid hpre
      clear hpre
      obtain ⟨v45, e45, g45, f45⟩ := hd 2 45 (by kernel_rfl) rfl
      have f45 : v45 = .pointer (some ⟨t, 0, none⟩) := f45
      subst f45
      clear hk hd
      have HR := Lib.hid hR
      clear hR
      go_simp
      exact hK _ _ (Only.refl _ _) rfl (SA.out.same (Nat.ne_of_beq_eq_false rfl)) (SB.out.same (Nat.ne_of_beq_eq_false rfl))
    · intro ra RW hR hsA hsB hk hd K hK
      have SA := Lib.hid hsA
      have SB := Lib.hid hsB
      clear hsA hsB
      have hpre := SB.out.early (by kernel_rfl)
      obtain ⟨y0, y1, y2⟩ := HF.out RW hpre
      have HPRE := Lib.hid hpre
      clear hpre
      obtain ⟨e1, g1⟩ := hk 1 (.int .i64 (k : Int)) (by kernel_rfl) rfl
      clear hk hd
      have HR := Lib.hid hR
      clear hR
      go_simp
      exact hK _ _ (Only.refl _ _) rfl (SA.out.same (Nat.ne_of_beq_eq_false rfl)) (SB.out.same (Nat.ne_of_beq_eq_false rfl))
    · intro ra RW hR hsA hsB hk hd K hK
      have SA := Lib.hid hsA
      have SB := Lib.hid hsB
      clear hsA hsB
      have hpre := SB.out.early (by kernel_rfl)
      obtain ⟨y0, y1, y2⟩ := HF.out RW hpre
      have HPRE := Lib.hid hpre
      clear hpre
      obtain ⟨e0, g0⟩ := hk 0 (.pointer (some ⟨t, 0, none⟩)) (by kernel_rfl) rfl
      clear hk hd
      have HR := Lib.hid hR
      clear hR
      go_simp
      exact hK _ _ (Only.refl _ _) rfl (SA.out.same (Nat.ne_of_beq_eq_false rfl)) (SB.out.same (Nat.ne_of_beq_eq_false rfl))
    · intro ra RW hR hsA hsB hk hd K hK
      have SA := Lib.hid hsA
      have SB := Lib.hid hsB
      clear hsA hsB
      have hpre := SB.out.early (by kernel_rfl)
      obtain ⟨y0, y1, y2⟩ := HF.out RW hpre
      have HPRE := Lib.hid hpre
      clear hpre
      obtain ⟨v48, e48, g48, f48⟩ := hd 5 48 (by kernel_rfl) rfl
      have f48 : v48 = .pointer (some ⟨t, 0, none⟩) := f48
      subst f48
      clear hk hd
      have HR := Lib.hid hR
      clear hR
      go_simp
      exact hK _ _ (Only.refl _ _) rfl (SA.out.same (Nat.ne_of_beq_eq_false rfl)) (SB.out.same (Nat.ne_of_beq_eq_false rfl))
    · intro ra RW hR hsA hsB hk hd K hK
      have SA := Lib.hid hsA
      have SB := Lib.hid hsB
      clear hsA hsB
      have hpre := SB.out.early (by kernel_rfl)
      obtain ⟨y0, y1, y2⟩ := HF.out RW hpre
      have HPRE := Lib.hid hpre
      clear hpre
      obtain ⟨v49, e49, g49, f49⟩ := hd 6 49 (by kernel_rfl) rfl
      have f49 : v49 = .pointer (some ⟨t, 0, none⟩) := f49
      subst f49
      clear hk hd
      have HR := Lib.hid hR
      clear hR
      go_simp
      exact hK _ _ (Only.refl _ _) rfl (SA.out.same (Nat.ne_of_beq_eq_false rfl)) (SB.out.same (Nat.ne_of_beq_eq_false rfl))
    · intro ra RW hR hsA hsB hk hd K hK
      have SA := Lib.hid hsA
      have SB := Lib.hid hsB
      clear hsA hsB
      have hpre := SB.out.early (by kernel_rfl)
      obtain ⟨y0, y1, y2⟩ := HF.out RW hpre
      have HPRE := Lib.hid hpre
      clear hpre
      obtain ⟨v50, e50, g50, f50⟩ := hd 7 50 (by kernel_rfl) rfl
      have f50 : v50 = .pointer (some ⟨t, 0, none⟩) := f50
      subst f50
      clear hk hd
      have HR := Lib.hid hR
      clear hR
      go_simp
      exact hK _ _ (Only.refl _ _) rfl (SA.out.same (Nat.ne_of_beq_eq_false rfl)) (SB.out.same (Nat.ne_of_beq_eq_false rfl))
    · intro ra RW hR hsA hsB hk hd K hK
      have SA := Lib.hid hsA
      have SB := Lib.hid hsB
      clear hsA hsB
      have hpre := SB.out.early (by kernel_rfl)
      obtain ⟨y0, y1, y2⟩ := HF.out RW hpre
      have HPRE := Lib.hid hpre
      clear hpre
      obtain ⟨e1, g1⟩ := hk 1 (.int .i64 (k : Int)) (by kernel_rfl) rfl
      clear hk hd
      have HR := Lib.hid hR
      clear hR
      go_simp
      exact hK _ _ (Only.refl _ _) rfl (SA.out.same (Nat.ne_of_beq_eq_false rfl)) (SB.out.same (Nat.ne_of_beq_eq_false rfl))
    · intro ra RW hR hsA hsB hk hd K hK
      have SA := Lib.hid hsA
      have SB := Lib.hid hsB
      clear hsA hsB
      have hpre := SB.out.early (by kernel_rfl)
      obtain ⟨y0, y1, y2⟩ := HF.out RW hpre
      have HPRE := Lib.hid hpre
      clear hpre
      obtain ⟨v51, e51, g51, f51⟩ := hd 8 51 (by kernel_rfl) rfl
      have f51 : v51 = (Value.slice (some ⟨g1, o1, none⟩) n1 c1) := f51
      subst f51
      obtain ⟨v52, e52, g52, f52⟩ := hd 9 52 (by kernel_rfl) rfl
      have f52 : v52 = .int .i64 (k : Int) := f52
      subst f52
      clear hk hd
      have HR := Lib.hid hR
      clear hR
      go_simp
      exact hK _ _ (Only.refl _ _) rfl (SA.out.same (Nat.ne_of_beq_eq_false rfl)) (SB.out.same (Nat.ne_of_beq_eq_false rfl))
    · intro ra RW hR hsA hsB hk hd K hK
      have SA := Lib.hid hsA
      have SB := Lib.hid hsB
      clear hsA hsB
      have hpre := SB.out.early (by kernel_rfl)
      obtain ⟨y0, y1, y2⟩ := HF.out RW hpre
      have HPRE := Lib.hid hpre
      clear hpre
      obtain ⟨v53, e53, g53, f53⟩ := hd 10 53 (by kernel_rfl) rfl
      have f53 : v53 = .pointer (some ⟨g1, o1 + k * 3, none⟩) := f53
      subst f53
      clear hk hd
      have HR := Lib.hid hR
      clear hR
      go_simp
      exact hK _ _ (Only.refl _ _) rfl (SA.out.same (Nat.ne_of_beq_eq_false rfl)) (SB.out.same (Nat.ne_of_beq_eq_false rfl))
    · intro ra RW hR hsA hsB hk hd K hK
      have SA := Lib.hid hsA
      have SB := Lib.hid hsB
      clear hsA hsB
      have hpre := SB.out.early (by kernel_rfl)
      obtain ⟨y0, y1, y2⟩ := HF.out RW hpre
      have HPRE := Lib.hid hpre
      clear hpre
      obtain ⟨v54, e54, g54, f54⟩ := hd 11 54 (by kernel_rfl) rfl
      have f54 : v54 = .pointer (some ⟨g1, o1 + k * 3 + 2, none⟩) := f54
      subst f54
      clear hk hd
      have HR := Lib.hid hR
      clear hR
      go_simp
      exact hK _ _ (Only.refl _ _) rfl (SA.out.same (Nat.ne_of_beq_eq_false rfl)) (SB.out.same (Nat.ne_of_beq_eq_false rfl))
    · intro ra RW hR hsA hsB hk hd K hK
      have SA := Lib.hid hsA
      have SB := Lib.hid hsB
      clear hsA hsB
      have hpre := SB.out.early (by kernel_rfl)
      obtain ⟨y0, y1, y2⟩ := HF.out RW hpre
      have HPRE := Lib.hid hpre
      clear hpre
      obtain ⟨e6, g6⟩ := hk 6 (.int .i64 (n : Int)) (by kernel_rfl) rfl
      clear hk hd
      have HR := Lib.hid hR
      clear hR
      go_simp
      exact hK _ _ (Only.refl _ _) rfl (SA.out.same (Nat.ne_of_beq_eq_false rfl)) (SB.out.same (Nat.ne_of_beq_eq_false rfl))
    · intro ra RW hR hsA hsB hk hd K hK
      have SA := Lib.hid hsA
      have SB := Lib.hid hsB
      clear hsA hsB
      have hpre := SB.out.early (by kernel_rfl)
      obtain ⟨y0, y1, y2⟩ := HF.out RW hpre
      have HPRE := Lib.hid hpre
      clear hpre
      obtain ⟨v56, e56, g56, f56⟩ := hd 13 56 (by kernel_rfl) rfl
      have f56 : v56 = .int .i64 (n : Int) := f56
      subst f56
      have hsz : W1.heap.size ≤ RW.heap.size := hR.size
      have HPS := Lib.hid hsz
      clear hsz
      clear hk hd
      have HR := Lib.hid hR
      clear hR
      go_simp
      exact hK _ _ ((Only.refl _ _).alloc _) ⟨RW.heap.size, rfl, HPS.out, heap_alloc_new _ _⟩ (SideVOut.early (Nat.ne_of_beq_eq_false rfl) (by kernel_rfl) (below_al (SA.out.early (by kernel_rfl)) _)) (SideVOut.early (Nat.ne_of_beq_eq_false rfl) (by kernel_rfl) ⟨HPRE.out.1.alloc _, HPRE.out.2.alloc _⟩)
    · intro ra RW hR hsA hsB hk hd K hK
      have SA := Lib.hid hsA
      have SB := Lib.hid hsB
      clear hsA hsB
      have hpre := SB.out.early (by kernel_rfl)
      obtain ⟨y0, y1, y2⟩ := HF.out RW hpre
      have HPRE := Lib.hid hpre
      clear hpre
      obtain ⟨v55, e55, g55, f55⟩ := hd 12 55 (by kernel_rfl) rfl
      have f55 : v55 = (Value.slice A m kc) := f55
      subst f55
      obtain ⟨v57, e57, g57, f57⟩ := hd 14 57 (by kernel_rfl) rfl
      have F57 := Lib.hid f57
      clear f57
      obtain ⟨g9, e9, hl9, hb9⟩ := F57.out
      subst e9
      have HNEWS := Lib.hid (World.news_of_block hb9)
      clear hb9
      clear hk hd
      have HR := Lib.hid hR
      clear hR
      refine step_append_mine RW rfl (.tmp 55) (.tmp 57) _ rfl 3 j0 _ 1 8 Try.underlying33 hj0 hjz0 hjz1 hjz2 rfl (by omega) (Value.slice A m kc) m kxs (by exact g55) (HAO.out RW (SA.out.self rfl)) ⟨g9, 0, none⟩ 1 1 [.int .i64 (n : Int)] (by exact g57) rfl HNEWS.out (by simp [Value.oneCell']) (by omega) (by simp only [maxLen]; omega) (by omega) _ rfl ?_
      intro g4 o4 c4 w4 ho4 hg4 hat4
      exact hK _ _ ((Only.of_grown hg4).mono (fun q _ hq => HGL.out q hq)) trivial (SideVOut.self rfl (kidMid_of (SA.out.self rfl) ho4 hg4 hat4)) (SideVOut.early (Nat.ne_of_beq_eq_false rfl) (by kernel_rfl) ⟨HPRE.out.1.grown hg4 (fun e => HNE1.out e.symm), HPRE.out.2.grown hg4 HNE2.out⟩)
    · intro ra RW hR hsA hsB hk hd K hK
      have SA := Lib.hid hsA
      have SB := Lib.hid hsB
      clear hsA hsB
      have hpre := SB.out.early (by kernel_rfl)
      obtain ⟨y0, y1, y2⟩ := HF.out RW hpre
      have HPRE := Lib.hid hpre
      clear hpre
      obtain ⟨v46, e46, g46, f46⟩ := hd 3 46 (by kernel_rfl) rfl
      have f46 : v46 = (Value.slice (some ⟨g1, o1, none⟩) n1 c1) := f46
      subst f46
      obtain ⟨v47, e47, g47, f47⟩ := hd 4 47 (by kernel_rfl) rfl
      have f47 : v47 = .int .i64 (k : Int) := f47
      subst f47
      clear hk hd
      have HR := Lib.hid hR
      clear hR
      go_simp
      exact hK _ _ (Only.refl _ _) rfl (SA.out.same (Nat.ne_of_beq_eq_false rfl)) (SB.out.same (Nat.ne_of_beq_eq_false rfl))
    · intro ra RW hR hsA hsB hk hd K hK
      have SA := Lib.hid hsA
      have SB := Lib.hid hsB
      clear hsA hsB
      have hpre := SB.out.early (by kernel_rfl)
      obtain ⟨y0, y1, y2⟩ := HF.out RW hpre
      have HPRE := Lib.hid hpre
      clear hpre
      obtain ⟨v59, e59, g59, f59⟩ := hd 16 59 (by kernel_rfl) rfl
      have f59 : v59 = .pointer (some ⟨g1, o1 + k * 3, none⟩) := f59
      subst f59
      clear hk hd
      have HR := Lib.hid hR
      clear hR
      go_simp
      exact hK _ _ (Only.refl _ _) rfl (SA.out.same (Nat.ne_of_beq_eq_false rfl)) (SB.out.same (Nat.ne_of_beq_eq_false rfl))
    · intro ra RW hR hsA hsB hk hd K hK
      have SA := Lib.hid hsA
      have SB := Lib.hid hsB
      clear hsA hsB
      obtain ⟨v60, e60, g60, f60⟩ := hd 17 60 (by kernel_rfl) rfl
      have f60 : v60 = .pointer (some ⟨g1, o1 + k * 3 + 2, none⟩) := f60
      subst f60
      obtain ⟨v58, e58, g58, f58⟩ := hd 15 58 (by kernel_rfl) rfl
      have F58 := Lib.hid f58
      clear f58
      have hm : KidMid W1.drew g1 RW v58 (Value.slice A m kc) m kxs (.int .i64 (n : Int)) := SA.out.late_at (Nat.ne_of_beq_eq_false rfl) (by kernel_rfl) (by kernel_rfl) (d := 58) rfl e58
      have hb : KidPre t (Value.slice (some ⟨g1, o1, none⟩) n1 c1) n1 ys RW := SB.out.self rfl
      obtain ⟨y0, y1, y2⟩ := HF.out RW hb
      have hm2 := hm
      obtain ⟨g5, o5, c5, e5, -, -, -⟩ := hm2
      subst e5
      have HM5 := Lib.hid hm; have HB5 := Lib.hid hb
      clear hm hb
      clear hk hd
      have HR := Lib.hid hR
      clear hR
      go_simp
      exact hK undef _ ((Only.refl (fun q => q < W1.heap.size) RW).setCell (p := ⟨g1, o1 + k * 3 + 2, none⟩) (fun _ => HGG.out) _) trivial (SideVOut.late (Nat.ne_of_beq_eq_false rfl) (by kernel_rfl) (by kernel_rfl) (fun u hu => KidMid.set hu HB5.out.2 rfl _ _)) (SideVOut.self rfl ⟨_, RW, HM5.out, HB5.out, rfl⟩)
  intro vs RW hR hpA hpB hF
  clear hpA
  obtain ⟨ub, -, hpB⟩ := hpB
  have q0 : vs 0 = .pointer (some ⟨t, 0, none⟩) := hF 0 (by decide)
  have q1 : vs 1 = .pointer (some ⟨t, 0, none⟩) := hF 1 (by decide)
  have q2 : vs 2 = .pointer (some ⟨t, 0, none⟩) := hF 2 (by decide)
  have q3 : vs 3 = (Value.slice (some ⟨g1, o1, none⟩) n1 c1) := hF 3 (by decide)
  have q4 : vs 4 = .int .i64 (k : Int) := hF 4 (by decide)
  have q5 : vs 5 = .pointer (some ⟨t, 0, none⟩) := hF 5 (by decide)
  have q6 : vs 6 = .pointer (some ⟨t, 0, none⟩) := hF 6 (by decide)
  have q7 : vs 7 = .pointer (some ⟨t, 0, none⟩) := hF 7 (by decide)
  have q8 : vs 8 = (Value.slice (some ⟨g1, o1, none⟩) n1 c1) := hF 8 (by decide)
  have q9 : vs 9 = .int .i64 (k : Int) := hF 9 (by decide)
  have q10 : vs 10 = .pointer (some ⟨g1, o1 + k * 3, none⟩) := hF 10 (by decide)
  have q11 : vs 11 = .pointer (some ⟨g1, o1 + k * 3 + 2, none⟩) := hF 11 (by decide)
  have q12 : vs 12 = (Value.slice A m kc) := hF 12 (by decide)
  have q13 : vs 13 = .int .i64 (n : Int) := hF 13 (by decide)
  have F57 := Lib.hid (hF 14 (by decide))
  have F58 := Lib.hid (hF 15 (by decide))
  have q16 : vs 16 = .pointer (some ⟨g1, o1 + k * 3, none⟩) := hF 16 (by decide)
  have q17 : vs 17 = .pointer (some ⟨g1, o1 + k * 3 + 2, none⟩) := hF 17 (by decide)
  simp only [setAll, List.setIfInBounds_toArray, List.set_cons_zero, List.set_cons_succ, q0, q1, q2, q3, q4, q5, q6, q7, q8, q9, q10, q11, q12, q13, q16, q17]
  clear hF q0 q1 q2 q3 q4 q5 q6 q7 q8 q9 q10 q11 q12 q13 q16 q17
  generalize vs 14 = v57 at *
  generalize vs 15 = v58 at *
  clear vs
  obtain ⟨v, W5, hm, hb, e⟩ := hpB
  clear F57 F58 ub
  have HOZ := Lib.hid e
  clear e
  go_wp2
  go_ret2
  have e := HOZ.out
  have hn0 := HN0.out; have hn1 := HN1.out
  subst hn0
  subst hn1
  have hm0 := HM.out; have hks := HKS.out; have hys := HYS.out; have hkv := HKV2.out
  subst hm0; subst hks; subst hys
  have hkk : (if k = s.n then .slice none 0 0 else ks k) = ks k := if_neg (by omega)
  rw [← hkv] at hm
  obtain ⟨hr2, hO2⟩ := KidMid.rep (s := addN s k) (m := s.n) rfl HR1.out hk1 (by simp only [hkk]; exact hm) hb e
  refine ⟨rfl, HO1.out.trans hO2 (fun q hq hs => ?_), _, fun q hq => ?_, _, _, by rw [← addS_eq (show k < s.ki.length by rw [HH.out.kl]; omega)]; exact hr2⟩
  · rcases hs with hs | hs
    · exact hs
    · omega
  · rcases hq with (hq | hq) | hq
    · exact .inl hq
    · exact .inr hq.1
    · exact .inr (Nat.le_trans HO1.out.size hq.1)
end Go.Proofs.Ytddklpphcfgooaa
