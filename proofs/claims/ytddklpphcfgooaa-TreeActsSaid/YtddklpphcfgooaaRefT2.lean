/-
  The contracts of the functions New, Add, Cancel of the document's tree; no condition beyond those that each theorem states.
-/
import Derived.Test.YtddklpphcfgooaaRefT1
namespace Go.Proofs.Ytddklpphcfgooaa
open Go.RowKit Go.Rb

theorem KidMid.setB {w0 W : World} {gx m : Nat} {u kv : Value} {xs : List Value} {c : Value} {cs : Array Value} (h : KidMid w0 gx W u kv m xs c) (hb : Blk W gx 45 cs) (i : Nat) (x : Value) : KidMid w0 gx (W.setCell ⟨gx, i, none⟩ x) u kv m xs c := by
  obtain ⟨g, off, cap, e, ho, hO, hgg⟩ := h
  exact ⟨g, off, cap, e, ho.setCell (p := ⟨gx, i, none⟩) (own_ne_blk ho hb (by decide)) _, hO.setCell (p := ⟨gx, i, none⟩) (fun _ => .inr (.inl rfl)) _, hgg⟩
theorem RefA.addUp {w w2 : World} {S : Nat → Prop} {r : Nat} {uv cv v : Value} {up ca : List Int} {p : Int} (h : RefA w S r uv cv up ca) (hm : KidMid w r w2 v uv up.length (up.map iV) (iV p)) (hb : Blk w2 r 45 #[uv, cv]) :
    RefA (w2.setCell ⟨r, 0, none⟩ v) (fun q => S q ∨ w.heap.size ≤ q ∧ q < (w2.setCell ⟨r, 0, none⟩ v).heap.size) r v cv (up ++ [p]) ca ∧ Only S w (w2.setCell ⟨r, 0, none⟩ v) := by
  obtain ⟨g, off, cap, rfl, ho, hO, hg⟩ := hm
  have hS : ∀ q, uv.ownBlock = some q ∨ q = r ∨ w.heap.size ≤ q → q < w.heap.size → S q := by
    rintro q (hq | rfl | hq) hlt
    · exact h.su q hq
    · exact h.st
    · omega
  have hs : ∀ u : Value, (w2.setCell ⟨r, 0, none⟩ u).heap.size = w2.heap.size := fun u => by simp [World.setCell]
  refine ⟨⟨by simpa using hb.set_ 0 _, ?_, ?_, ?_, .inl h.st, ?_, fun q hq => .inl (h.sc q hq), ?_⟩, ?_⟩
  · rw [List.length_append, List.length_singleton, List.map_append]
    exact ho.setCell (p := ⟨r, 0, none⟩) (own_ne_blk ho hb (by decide)) _
  · refine (Own.setCell (w := w2) (p := ⟨r, 0, none⟩) (Own.only h.co hO ?_) (own_ne_blk h.co h.tb (by decide)) _)
    rintro q hq (hq2 | rfl | hq2)
    · exact h.ne q hq2 hq
    · exact own_ne_blk h.co h.tb (by decide) hq
    · have := h.co.lt hq; omega
  · intro q hq hq2
    obtain rfl : g = q := by simpa [Value.ownBlock] using hq
    rcases hg with hg | hg
    · exact h.ne _ hg hq2
    · have := h.co.lt hq2; omega
  · intro q hq
    obtain rfl : g = q := by simpa [Value.ownBlock] using hq
    rcases hg with hg | hg
    · exact .inl (h.su _ hg)
    · exact .inr ⟨hg, by rw [hs]; exact ho.lt rfl⟩
  · rintro q (hq | ⟨_, hq⟩)
    · have := h.lt q hq; rw [hs]; exact Nat.lt_of_lt_of_le this hO.size
    · exact hq
  · exact (hO.mono (S' := S) (fun q hl hq => hS q hq hl)).setCell (p := ⟨r, 0, none⟩) (fun _ => h.st) _
theorem RefA.addCa {w w2 : World} {S : Nat → Prop} {r : Nat} {uv cv v : Value} {up ca : List Int} {z : Int} (h : RefA w S r uv cv up ca) (hm : KidMid w.drew r w2 v cv ca.length (ca.map iV) (iV z)) (hb : Blk w2 r 45 #[uv, cv]) :
    RefA (w2.setCell ⟨r, 1, none⟩ v) (fun q => S q ∨ w.heap.size ≤ q ∧ q < (w2.setCell ⟨r, 1, none⟩ v).heap.size) r uv v up (ca ++ [z]) ∧ Only S w (w2.setCell ⟨r, 1, none⟩ v) := by
  obtain ⟨g, off, cap, rfl, ho, hO', hg⟩ := hm
  have hO : Only (fun k => cv.ownBlock = some k ∨ k = r ∨ w.heap.size ≤ k) w w2 := ⟨hO'.os, hO'.tape, hO'.output, hO'.size, hO'.block⟩
  have hg' : cv.ownBlock = some g ∨ w.heap.size ≤ g := hg
  have hS : ∀ q, cv.ownBlock = some q ∨ q = r ∨ w.heap.size ≤ q → q < w.heap.size → S q := by
    rintro q (hq | rfl | hq) hlt
    · exact h.sc q hq
    · exact h.st
    · omega
  have hs : ∀ u : Value, (w2.setCell ⟨r, 1, none⟩ u).heap.size = w2.heap.size := fun u => by simp [World.setCell]
  refine ⟨⟨by simpa using hb.set_ 1 _, ?_, ?_, ?_, .inl h.st, fun q hq => .inl (h.su q hq), ?_, ?_⟩, ?_⟩
  · refine (Own.setCell (w := w2) (p := ⟨r, 1, none⟩) (Own.only h.uo hO ?_) (own_ne_blk h.uo h.tb (by decide)) _)
    rintro q hq (hq2 | rfl | hq2)
    · exact h.ne q hq hq2
    · exact own_ne_blk h.uo h.tb (by decide) hq
    · have := h.uo.lt hq; omega
  · rw [List.length_append, List.length_singleton, List.map_append]
    exact ho.setCell (p := ⟨r, 1, none⟩) (own_ne_blk ho hb (by decide)) _
  · intro q hq hq2
    obtain rfl : g = q := by simpa [Value.ownBlock] using hq2
    rcases hg' with hg | hg
    · exact h.ne _ hq hg
    · have := h.uo.lt hq; omega
  · intro q hq
    obtain rfl : g = q := by simpa [Value.ownBlock] using hq
    rcases hg' with hg | hg
    · exact .inl (h.sc _ hg)
    · exact .inr ⟨hg, by rw [hs]; exact ho.lt rfl⟩
  · rintro q (hq | ⟨_, hq⟩)
    · have := h.lt q hq; rw [hs]; exact Nat.lt_of_lt_of_le this hO.size
    · exact hq
  · exact (hO.mono (S' := S) (fun q hl hq => hS q hq hl)).setCell (p := ⟨r, 1, none⟩) (fun _ => h.st) _

set_option maxHeartbeats 2000000 in
theorem rNew_any (w : World) : Calls Try.prog 14 #[] w fun e w' => ∃ r S, e = .returned (pp r) ∧ Below w.heap.size w w' ∧ RefT w' S r rootS ∧ ∀ q, S q → w.heap.size ≤ q := by
  obtain ⟨w0, hw0⟩ : ∃ w0, w0 = w := ⟨_, rfl⟩
  subst hw0
  go_enter Try.func14, Try.ntmps14
  go_wp2
  go_ret
  have h1 : (w0.alloc (.cells #[.int .i64 (-1)] 3)).heap.size = w0.heap.size + 1 := by simp
  have h2 : ((w0.alloc (.cells #[.int .i64 (-1)] 3)).alloc (.cells #[.int .i64 0] 3)).heap.size = w0.heap.size + 2 := by simp
  refine ⟨w0.heap.size + 2, fun q => w0.heap.size ≤ q ∧ q < w0.heap.size + 3, rfl, ((below_al (Below.refl _ _) _).alloc (by simp) _).alloc (by simp; omega) _, ⟨.slice (some ⟨w0.heap.size, 0, none⟩) 1 1, .slice (some ⟨w0.heap.size + 1, 0, none⟩) 1 1, ?_, ?_, ?_, ?_, ?_, ?_, ?_, ?_⟩, fun q hq => hq.1⟩
  · have := Blk.new ((w0.alloc (.cells #[.int .i64 (-1)] 3)).alloc (.cells #[.int .i64 0] 3)) 45 #[.slice (some ⟨w0.heap.size, 0, none⟩) 1 1, .slice (some ⟨w0.heap.size + 1, 0, none⟩) 1 1]
    rw [h2] at this
    exact this
  · exact ((Own.lit w0 3 1 1 #[.int .i64 (-1)] rfl (by decide)).alloc _).alloc _
  · have := Own.lit (w0.alloc (.cells #[.int .i64 (-1)] 3)) 3 1 1 #[.int .i64 0] rfl (by decide)
    rw [h1] at this
    exact this.alloc _
  · intro k hk hk2
    have e1 : w0.heap.size = k := by simpa [Value.ownBlock] using hk
    have e2 : w0.heap.size + 1 = k := by simpa [Value.ownBlock] using hk2
    omega
  · exact ⟨by omega, by omega⟩
  · intro k hk
    have e1 : w0.heap.size = k := by simpa [Value.ownBlock] using hk
    exact ⟨by omega, by omega⟩
  · intro k hk
    have e1 : w0.heap.size + 1 = k := by simpa [Value.ownBlock] using hk
    exact ⟨by omega, by omega⟩
  · intro k hk
    simp; omega

set_option maxHeartbeats 2000000 in
theorem rAdd_bad {S : Nat → Prop} {r : Nat} {s : TS} (i : Int) (w : World) (hR : RefT w S r s) (hi : ¬ thereB s i) :
    Calls Try.prog 15 #[pp r, .int .i64 i] w fun e w' => e = .returned (.tuple #[.int .i64 0, .int .i64 2]) ∧ w = w' := by
  have HC := Lib.hid (rIs_any i w hR)
  rw [decide_eq_false hi] at HC
  clear hR hi
  unfold pp at HC ⊢
  go_enter Try.func15, Try.ntmps15
  go_wp2_with (go_at_call 22; refine HC.out.mono ?_; rintro e1 w1 ⟨rfl, rfl⟩)
  go_ret2
  exact ⟨rfl, rfl⟩
set_option maxHeartbeats 2000000 in
theorem rAdd_full {S : Nat → Prop} {r : Nat} {s : TS} (i : Int) (w : World) (hR : RefT w S r s) (hi : thereB s i) (hn : ¬ s.n < 256) :
    Calls Try.prog 15 #[pp r, .int .i64 i] w fun e w' => e = .returned (.tuple #[.int .i64 0, .int .i64 16]) ∧ w = w' := by
  have HC := Lib.hid (rIs_any i w hR)
  rw [decide_eq_true hi] at HC
  obtain ⟨uv, cv, h⟩ := hR
  have c0 := h.c0
  obtain ⟨A, cap, rfl, -, -⟩ := h.uo.len_
  have l2 : ¬ (s.n : Int) < 256 := by omega
  unfold TS.n at l2
  clear h hi hn
  generalize s.up.length = n at *
  unfold pp at HC ⊢
  go_enter Try.func15, Try.ntmps15
  go_wp2_with (go_at_call 22; refine HC.out.mono ?_; rintro e1 w1 ⟨rfl, rfl⟩)
  go_ret2
  exact ⟨rfl, rfl⟩

set_option maxRecDepth 20000 in
set_option maxHeartbeats 4000000 in
theorem rAdd_any {S : Nat → Prop} {r : Nat} {s : TS} (k : Nat) (w : World) (hR : RefT w S r s) (hcl : s.ca.length = s.n) (hk : k < s.n) (hn : s.n < 256) :
    Calls Try.prog 15 #[pp r, .int .i64 (k : Int)] w fun e w' => e = .returned (.tuple #[.int .i64 (s.n : Int), .int .i64 0]) ∧ Only S w w' ∧ ∃ S', (∀ q, S' q → S q ∨ w.heap.size ≤ q) ∧ RefT w' S' r (addS s k) := by
  obtain ⟨i0, hi0, hz0, hz1, hz2⟩ := info_parts info3
  have HC := Lib.hid (rIs_any (k : Int) w hR)
  rw [decide_eq_true (show thereB s k from ⟨by omega, by omega⟩)] at HC
  obtain ⟨uv, cv, h⟩ := hR
  have c0 := h.c0
  have hlu : s.up.length = s.n := rfl
  obtain ⟨A, cap, rfl, -, -⟩ := h.uo.len_
  have HO := Lib.hid h.uo
  have HH := Lib.hid h
  have hne : (Value.slice A s.up.length cap).ownBlock ≠ some r := own_ne_blk h.uo h.tb (by decide)
  have HNE := Lib.hid hne
  have key : Hid (∀ w4 g o c, Own w4 3 1 (.slice (some ⟨g, o, none⟩) (s.up.length + 1) c) (s.up.length + 1) (s.up.map iV ++ [.int .i64 (k : Int)]) →
      (w.alloc (.cells #[.int .i64 (k : Int)] 3)).grownBy w4 (Value.slice A s.up.length cap).ownBlock → ((Value.slice A s.up.length cap).ownBlock = some g ∨ g = w.heap.size + 1) →
      w4.cell? ⟨r, 0, none⟩ = some (.slice A s.up.length cap) ∧ w4.frozen? ⟨r, 0, none⟩ = false ∧
      Hid (∃ S1, (∀ q, S1 q → S q ∨ w.heap.size ≤ q) ∧ RefA (w4.setCell ⟨r, 0, none⟩ (.slice (some ⟨g, o, none⟩) (s.up.length + 1) c)) S1 r (.slice (some ⟨g, o, none⟩) (s.up.length + 1) c) cv (s.up ++ [(k : Int)]) s.ca ∧ Only S w (w4.setCell ⟨r, 0, none⟩ (.slice (some ⟨g, o, none⟩) (s.up.length + 1) c)))) := by
    intro w4 g o c hown hgrow hat
    have hb : Blk w4 r 45 #[.slice A s.up.length cap, cv] := (h.tb.alloc _).grown hgrow (fun e => hne e.symm)
    refine ⟨by rw [hb.cell]; rfl, hb.frozen 0, ?_⟩
    have hm : KidMid w r w4 (.slice (some ⟨g, o, none⟩) (s.up.length + 1) c) (.slice A s.up.length cap) s.up.length (s.up.map iV) (iV (k : Int)) :=
      kidMid_of (below_al (Below.refl _ w) _) hown hgrow (by rcases hat with h | h; exact .inl h; right; rw [h]; simp)
    obtain ⟨h1, h2⟩ := h.addUp hm hb
    exact ⟨_, fun q hq => hq.imp id (fun h => h.1), h1, h2⟩
  clear h hne
  generalize hn0 : s.up.length = n at *
  have HN0 := Lib.hid hn0
  rw [← hlu] at hk hn hcl ⊢
  have l2 : (n : Int) < 256 := by omega
  clear hn0 hlu
  unfold pp at HC ⊢
  go_enter Try.func15, Try.ntmps15
  go_wp2_with (first
    | (go_at_call 22; refine HC.out.mono ?_; rintro e1 w1 ⟨rfl, rfl⟩)
    | (at_builtin; go_loud (refine wpList_append_mine _ rfl (.tmp 20) (.tmp 22) _ rfl 3 i0 _ 1 8 Try.underlying33 hi0 hz0 hz1 hz2 rfl (by omega) (.slice A n cap) n (s.up.map iV) rfl (by exact HO.out.alloc _) _ 1 1 [_] rfl rfl (by exact news_push rfl rfl) (by simp [Value.oneCell']) (by omega) (by simp only [maxLen]; omega) (by omega) _ rfl ?_; intro g2 o2 c2 w2 hown2 hgrow2 hat2; obtain ⟨cc, ff, HK⟩ := key.out w2 g2 o2 c2 hown2 hgrow2 (by rcases hat2 with h | h; exact .inl h; right; rw [h]; simp); clear hown2 hgrow2 hat2)))
  clear cc ff key HC HO c0 HNE
  obtain ⟨S1, hS1, hr1, hO1⟩ := HK.out
  clear HK
  have HO1 := Lib.hid hO1; have HR1 := Lib.hid hr1; have HS1 := Lib.hid hS1
  clear hS1 hO1
  generalize w2.setCell ⟨r, 0, none⟩ (.slice (some ⟨g2, o2, none⟩) (n + 1) c2) = W1 at *
  obtain ⟨g, off, cap1, hcv, cat, -, -⟩ := hr1.cat (i := k) (by omega)
  subst hcv
  have hd0 : Blk W1.drew r 45 #[.slice (some ⟨g2, o2, none⟩) (n + 1) c2, .slice (some ⟨g, off, none⟩) s.ca.length cap1] := hr1.tb
  have HTB := Lib.hid hd0
  have hrl : r < W1.heap.size := hr1.lt r hr1.st
  have hgl : g < W1.heap.size := hr1.co.lt rfl
  have HF : Hid (∀ W, Below W1.drew.heap.size W1.drew W → W.cell? ⟨r, 1, none⟩ = some (.slice (some ⟨g, off, none⟩) s.ca.length cap1) ∧ W.cell? ⟨g, off + k, none⟩ = some (.int .i64 (s.ca.getD k 0))) := fun W hW =>
    ⟨(hW.cell (p := ⟨r, 1, none⟩) hrl).trans hr1.c1, (hW.cell (p := ⟨g, off + k, none⟩) hgl).trans cat⟩
  have HAO : Hid (∀ W, Below W1.drew.heap.size W1.drew W → Own W 3 1 (.slice (some ⟨g, off, none⟩) s.ca.length cap1) s.ca.length (s.ca.map iV)) := fun W hW => (show Own W1.drew _ _ _ _ _ from hr1.co).below hW fun _ hk => hr1.co.lt hk
  have HGL : Hid (∀ q, (Value.slice (some ⟨g, off, none⟩) s.ca.length cap1).ownBlock = some q → q < W1.heap.size) := fun q hq => hr1.co.lt hq
  have HNE1 : Hid ((Value.slice (some ⟨g, off, none⟩) s.ca.length cap1).ownBlock ≠ some r) := own_ne_blk hr1.co hr1.tb (by decide)
  have HGG : Hid (r < W1.heap.size) := hrl
  clear hr1 hd0 hrl hgl cat
  generalize hcl1 : s.ca.length = cl at *
  generalize hxs : s.ca.map iV = xs at *
  generalize hz : s.ca.getD k 0 = z at *
  generalize huv : (Value.slice (some ⟨g2, o2, none⟩) (n + 1) c2) = uv at *
  have HUV := Lib.hid huv
  have HCL := Lib.hid hcl1; have HXS := Lib.hid hxs; have HZ := Lib.hid hz
  have hklc : (k : Int) < (cl : Int) := by omega
  have hcl256 : cl < 256 := by omega
  have HCLN := Lib.hid hcl
  clear hcl1 hxs hz huv hcl
  go_wp2
  refine region_vals (by kernel_rfl) (Only (fun q => q < W1.heap.size))
    [.val (.pointer (some ⟨r, 0, none⟩)),
     .val (.pointer (some ⟨r, 0, none⟩)),
     .val (.pointer (some ⟨r, 0, none⟩)),
     .val (.pointer (some ⟨r, 1, none⟩)),
     .val ((Value.slice (some ⟨g, off, none⟩) cl cap1)),
     .val (.pointer (some ⟨r, 0, none⟩)),
     .val (.pointer (some ⟨r, 0, none⟩)),
     .val (.pointer (some ⟨r, 1, none⟩)),
     .val ((Value.slice (some ⟨g, off, none⟩) cl cap1)),
     .val (.int .i64 (k : Int)),
     .val (.pointer (some ⟨g, off + k, none⟩)),
     .val (.int .i64 z),
     ⟨fun v W => ∃ g9, v = .slice (some ⟨g9, 0, none⟩) 1 1 ∧ W1.heap.size ≤ g9 ∧ W.heap[g9]? = some (.cells #[.int .i64 z] 3 (0, 0)), fun v W W' ⟨g9, e, hl, hb⟩ hR => ⟨g9, e, hl, (hR.block g9 (Array.getElem?_eq_some_iff.1 hb).1 (by omega)).trans hb⟩⟩,
     .any,
     .val (.pointer (some ⟨r, 0, none⟩)),
     .val (.pointer (some ⟨r, 1, none⟩)),
     .any]
    (⟨13, fun W => Below W1.drew.heap.size W1.drew W, fun v W => KidMid W1.drew r W v (Value.slice (some ⟨g, off, none⟩) cl cap1) cl xs (.int .i64 z)⟩) (⟨16, fun W => Blk W r 45 #[uv, (Value.slice (some ⟨g, off, none⟩) cl cap1)], fun _ W => ∃ v W3, KidMid W1.drew r W3 v (Value.slice (some ⟨g, off, none⟩) cl cap1) cl xs (.int .i64 z) ∧ Blk W3 r 45 #[uv, (Value.slice (some ⟨g, off, none⟩) cl cap1)] ∧ W = W3.setCell ⟨r, 1, none⟩ v⟩) (fun W => Only.refl _ W) (fun _ _ _ h k => h.trans k (fun _ _ h => h)) (by kernel_rfl) (Below.refl _ _) (HTB.out) ⟨Nat.le_of_ble_eq_true rfl, Nat.le_of_ble_eq_true rfl⟩ ?_ ?_
  · refine ⟨?_, ?_, ?_, ?_, ?_, ?_, ?_, ?_, ?_, ?_, ?_, ?_, ?_, ?_, ?_, ?_, ?_, trivial⟩
    · intro ra RW hR hsA hsB hk hd K hK
      have SA := Lib.hid hsA
      have SB := Lib.hid hsB
      clear hsA hsB
      obtain ⟨e0, g0⟩ := hk 0 (.pointer (some ⟨r, 0, none⟩)) (by kernel_rfl) rfl
      clear hk hd
      have HR := Lib.hid hR
      clear hR
      go_simp
      exact hK _ _ (Only.refl _ _) rfl (SA.out.same (Nat.ne_of_beq_eq_false rfl)) (SB.out.same (Nat.ne_of_beq_eq_false rfl))
    · intro ra RW hR hsA hsB hk hd K hK
      have SA := Lib.hid hsA
      have SB := Lib.hid hsB
      clear hsA hsB
      have hpre := SA.out.early (by kernel_rfl)
      obtain ⟨y0, y1⟩ := HF.out RW hpre
      have HPRE := Lib.hid hpre; have HPS : Hid (W1.heap.size ≤ RW.heap.size) := hpre.size
      clear hpre
      obtain ⟨e0, g0⟩ := hk 0 (.pointer (some ⟨r, 0, none⟩)) (by kernel_rfl) rfl
      clear hk hd
      have HR := Lib.hid hR
      clear hR
      go_simp
      exact hK _ _ (Only.refl _ _) rfl (SA.out.same (Nat.ne_of_beq_eq_false rfl)) (SB.out.same (Nat.ne_of_beq_eq_false rfl))
    · intro ra RW hR hsA hsB hk hd K hK
      have SA := Lib.hid hsA
      have SB := Lib.hid hsB
      clear hsA hsB
      have hpre := SA.out.early (by kernel_rfl)
      obtain ⟨y0, y1⟩ := HF.out RW hpre
      have HPRE := Lib.hid hpre; have HPS : Hid (W1.heap.size ≤ RW.heap.size) := hpre.size
      clear hpre
      obtain ⟨v27, e27, g27, f27⟩ := hd 1 27 (by kernel_rfl) rfl
      have f27 : v27 = .pointer (some ⟨r, 0, none⟩) := f27
      subst f27
      clear hk hd
      have HR := Lib.hid hR
      clear hR
      go_simp
      exact hK _ _ (Only.refl _ _) rfl (SA.out.same (Nat.ne_of_beq_eq_false rfl)) (SB.out.same (Nat.ne_of_beq_eq_false rfl))
    · intro ra RW hR hsA hsB hk hd K hK
      have SA := Lib.hid hsA
      have SB := Lib.hid hsB
      clear hsA hsB
      have hpre := SA.out.early (by kernel_rfl)
      obtain ⟨y0, y1⟩ := HF.out RW hpre
      have HPRE := Lib.hid hpre; have HPS : Hid (W1.heap.size ≤ RW.heap.size) := hpre.size
      clear hpre
      obtain ⟨v28, e28, g28, f28⟩ := hd 2 28 (by kernel_rfl) rfl
      have f28 : v28 = .pointer (some ⟨r, 0, none⟩) := f28
      subst f28
      clear hk hd
      have HR := Lib.hid hR
      clear hR
      go_simp
      exact hK _ _ (Only.refl _ _) rfl (SA.out.same (Nat.ne_of_beq_eq_false rfl)) (SB.out.same (Nat.ne_of_beq_eq_false rfl))
    · intro ra RW hR hsA hsB hk hd K hK
      have SA := Lib.hid hsA
      have SB := Lib.hid hsB
      clear hsA hsB
      have hpre := SA.out.early (by kernel_rfl)
      obtain ⟨y0, y1⟩ := HF.out RW hpre
      have HPRE := Lib.hid hpre; have HPS : Hid (W1.heap.size ≤ RW.heap.size) := hpre.size
      clear hpre
      obtain ⟨v29, e29, g29, f29⟩ := hd 3 29 (by kernel_rfl) rfl
      have f29 : v29 = .pointer (some ⟨r, 1, none⟩) := f29
      subst f29
      clear hk hd
      have HR := Lib.hid hR
      clear hR
      go_simp
      exact hK _ _ (Only.refl _ _) rfl (SA.out.same (Nat.ne_of_beq_eq_false rfl)) (SB.out.same (Nat.ne_of_beq_eq_false rfl))
    · intro ra RW hR hsA hsB hk hd K hK
      have SA := Lib.hid hsA
      have SB := Lib.hid hsB
      clear hsA hsB
      have hpre := SA.out.early (by kernel_rfl)
      obtain ⟨y0, y1⟩ := HF.out RW hpre
      have HPRE := Lib.hid hpre; have HPS : Hid (W1.heap.size ≤ RW.heap.size) := hpre.size
      clear hpre
      obtain ⟨e0, g0⟩ := hk 0 (.pointer (some ⟨r, 0, none⟩)) (by kernel_rfl) rfl
      clear hk hd
      have HR := Lib.hid hR
      clear hR
      go_simp
      exact hK _ _ (Only.refl _ _) rfl (SA.out.same (Nat.ne_of_beq_eq_false rfl)) (SB.out.same (Nat.ne_of_beq_eq_false rfl))
    · intro ra RW hR hsA hsB hk hd K hK
      have SA := Lib.hid hsA
      have SB := Lib.hid hsB
      clear hsA hsB
      have hpre := SA.out.early (by kernel_rfl)
      obtain ⟨y0, y1⟩ := HF.out RW hpre
      have HPRE := Lib.hid hpre; have HPS : Hid (W1.heap.size ≤ RW.heap.size) := hpre.size
      clear hpre
      obtain ⟨v31, e31, g31, f31⟩ := hd 5 31 (by kernel_rfl) rfl
      have f31 : v31 = .pointer (some ⟨r, 0, none⟩) := f31
      subst f31
      clear hk hd
      have HR := Lib.hid hR
      clear hR
      go_simp
      exact hK _ _ (Only.refl _ _) rfl (SA.out.same (Nat.ne_of_beq_eq_false rfl)) (SB.out.same (Nat.ne_of_beq_eq_false rfl))
    · intro ra RW hR hsA hsB hk hd K hK
      have SA := Lib.hid hsA
      have SB := Lib.hid hsB
      clear hsA hsB
      have hpre := SA.out.early (by kernel_rfl)
      obtain ⟨y0, y1⟩ := HF.out RW hpre
      have HPRE := Lib.hid hpre; have HPS : Hid (W1.heap.size ≤ RW.heap.size) := hpre.size
      clear hpre
      obtain ⟨v32, e32, g32, f32⟩ := hd 6 32 (by kernel_rfl) rfl
      have f32 : v32 = .pointer (some ⟨r, 0, none⟩) := f32
      subst f32
      clear hk hd
      have HR := Lib.hid hR
      clear hR
      go_simp
      exact hK _ _ (Only.refl _ _) rfl (SA.out.same (Nat.ne_of_beq_eq_false rfl)) (SB.out.same (Nat.ne_of_beq_eq_false rfl))
    · intro ra RW hR hsA hsB hk hd K hK
      have SA := Lib.hid hsA
      have SB := Lib.hid hsB
      clear hsA hsB
      have hpre := SA.out.early (by kernel_rfl)
      obtain ⟨y0, y1⟩ := HF.out RW hpre
      have HPRE := Lib.hid hpre; have HPS : Hid (W1.heap.size ≤ RW.heap.size) := hpre.size
      clear hpre
      obtain ⟨v33, e33, g33, f33⟩ := hd 7 33 (by kernel_rfl) rfl
      have f33 : v33 = .pointer (some ⟨r, 1, none⟩) := f33
      subst f33
      clear hk hd
      have HR := Lib.hid hR
      clear hR
      go_simp
      exact hK _ _ (Only.refl _ _) rfl (SA.out.same (Nat.ne_of_beq_eq_false rfl)) (SB.out.same (Nat.ne_of_beq_eq_false rfl))
    · intro ra RW hR hsA hsB hk hd K hK
      have SA := Lib.hid hsA
      have SB := Lib.hid hsB
      clear hsA hsB
      have hpre := SA.out.early (by kernel_rfl)
      obtain ⟨y0, y1⟩ := HF.out RW hpre
      have HPRE := Lib.hid hpre; have HPS : Hid (W1.heap.size ≤ RW.heap.size) := hpre.size
      clear hpre
      obtain ⟨e1, g1⟩ := hk 1 (.int .i64 (k : Int)) (by kernel_rfl) rfl
      clear hk hd
      have HR := Lib.hid hR
      clear hR
      go_simp
      exact hK _ _ (Only.refl _ _) rfl (SA.out.same (Nat.ne_of_beq_eq_false rfl)) (SB.out.same (Nat.ne_of_beq_eq_false rfl))
    · intro ra RW hR hsA hsB hk hd K hK
      have SA := Lib.hid hsA
      have SB := Lib.hid hsB
      clear hsA hsB
      have hpre := SA.out.early (by kernel_rfl)
      obtain ⟨y0, y1⟩ := HF.out RW hpre
      have HPRE := Lib.hid hpre; have HPS : Hid (W1.heap.size ≤ RW.heap.size) := hpre.size
      clear hpre
      obtain ⟨v34, e34, g34, f34⟩ := hd 8 34 (by kernel_rfl) rfl
      have f34 : v34 = (Value.slice (some ⟨g, off, none⟩) cl cap1) := f34
      subst f34
      obtain ⟨v35, e35, g35, f35⟩ := hd 9 35 (by kernel_rfl) rfl
      have f35 : v35 = .int .i64 (k : Int) := f35
      subst f35
      clear hk hd
      have HR := Lib.hid hR
      clear hR
      go_simp
      exact hK _ _ (Only.refl _ _) rfl (SA.out.same (Nat.ne_of_beq_eq_false rfl)) (SB.out.same (Nat.ne_of_beq_eq_false rfl))
    · intro ra RW hR hsA hsB hk hd K hK
      have SA := Lib.hid hsA
      have SB := Lib.hid hsB
      clear hsA hsB
      have hpre := SA.out.early (by kernel_rfl)
      obtain ⟨y0, y1⟩ := HF.out RW hpre
      have HPRE := Lib.hid hpre; have HPS : Hid (W1.heap.size ≤ RW.heap.size) := hpre.size
      clear hpre
      obtain ⟨v36, e36, g36, f36⟩ := hd 10 36 (by kernel_rfl) rfl
      have f36 : v36 = .pointer (some ⟨g, off + k, none⟩) := f36
      subst f36
      clear hk hd
      have HR := Lib.hid hR
      clear hR
      go_simp
      exact hK _ _ (Only.refl _ _) rfl (SA.out.same (Nat.ne_of_beq_eq_false rfl)) (SB.out.same (Nat.ne_of_beq_eq_false rfl))
    · intro ra RW hR hsA hsB hk hd K hK
      have SA := Lib.hid hsA
      have SB := Lib.hid hsB
      clear hsA hsB
      have hpre := SA.out.early (by kernel_rfl)
      obtain ⟨y0, y1⟩ := HF.out RW hpre
      have HPRE := Lib.hid hpre; have HPS : Hid (W1.heap.size ≤ RW.heap.size) := hpre.size
      clear hpre
      obtain ⟨v37, e37, g37, f37⟩ := hd 11 37 (by kernel_rfl) rfl
      have f37 : v37 = .int .i64 z := f37
      subst f37
      clear hk hd
      have HR := Lib.hid hR
      clear hR
      go_simp
      exact hK _ _ ((Only.refl _ _).alloc _) ⟨RW.heap.size, rfl, HPS.out, heap_alloc_new _ _⟩ (SideVOut.early (Nat.ne_of_beq_eq_false rfl) (by kernel_rfl) (below_al (SA.out.early (by kernel_rfl)) _)) (SideVOut.early (Nat.ne_of_beq_eq_false rfl) (by kernel_rfl) ((SB.out.early (by kernel_rfl)).alloc _))
    · intro ra RW hR hsA hsB hk hd K hK
      have SA := Lib.hid hsA
      have SB := Lib.hid hsB
      clear hsA hsB
      obtain ⟨v30, e30, g30, f30⟩ := hd 4 30 (by kernel_rfl) rfl
      have f30 : v30 = (Value.slice (some ⟨g, off, none⟩) cl cap1) := f30
      subst f30
      obtain ⟨v38, e38, g38, f38⟩ := hd 12 38 (by kernel_rfl) rfl
      have F38 := Lib.hid f38
      clear f38
      obtain ⟨g9, e9, hl9, hb9⟩ := F38.out
      subst e9
      have HNEWS := Lib.hid (World.news_of_block hb9)
      clear hb9
      clear hk hd
      have HR := Lib.hid hR
      clear hR
      refine step_append_mine RW rfl (.tmp 30) (.tmp 38) _ rfl 3 i0 _ 1 8 Try.underlying33 hi0 hz0 hz1 hz2 rfl (by omega) (Value.slice (some ⟨g, off, none⟩) cl cap1) cl xs (by exact g30) (HAO.out RW (SA.out.self rfl)) ⟨g9, 0, none⟩ 1 1 [.int .i64 z] (by exact g38) rfl HNEWS.out (by simp [Value.oneCell']) (by omega) (by simp only [maxLen]; omega) (by omega) _ rfl ?_
      intro g4 o4 c4 w4 ho4 hg4 hat4
      exact hK _ _ ((Only.of_grown hg4).mono (fun q _ hq => HGL.out q hq)) trivial (SideVOut.self rfl (kidMid_of (SA.out.self rfl) ho4 hg4 hat4)) (SideVOut.early (Nat.ne_of_beq_eq_false rfl) (by kernel_rfl) (Blk.grown (SB.out.early (by kernel_rfl)) hg4 (fun e => HNE1.out e.symm)))
    · intro ra RW hR hsA hsB hk hd K hK
      have SA := Lib.hid hsA
      have SB := Lib.hid hsB
      clear hsA hsB
      obtain ⟨v26, e26, g26, f26⟩ := hd 0 26 (by kernel_rfl) rfl
      have f26 : v26 = .pointer (some ⟨r, 0, none⟩) := f26
      subst f26
      clear hk hd
      have HR := Lib.hid hR
      clear hR
      go_simp
      exact hK _ _ (Only.refl _ _) rfl (SA.out.same (Nat.ne_of_beq_eq_false rfl)) (SB.out.same (Nat.ne_of_beq_eq_false rfl))
    · intro ra RW hR hsA hsB hk hd K hK
      have SA := Lib.hid hsA
      have SB := Lib.hid hsB
      clear hsA hsB
      obtain ⟨v40, e40, g40, f40⟩ := hd 14 40 (by kernel_rfl) rfl
      have f40 : v40 = .pointer (some ⟨r, 0, none⟩) := f40
      subst f40
      clear hk hd
      have HR := Lib.hid hR
      clear hR
      go_simp
      exact hK _ _ (Only.refl _ _) rfl (SA.out.same (Nat.ne_of_beq_eq_false rfl)) (SB.out.same (Nat.ne_of_beq_eq_false rfl))
    · intro ra RW hR hsA hsB hk hd K hK
      have SA := Lib.hid hsA
      have SB := Lib.hid hsB
      clear hsA hsB
      obtain ⟨v41, e41, g41, f41⟩ := hd 15 41 (by kernel_rfl) rfl
      have f41 : v41 = .pointer (some ⟨r, 1, none⟩) := f41
      subst f41
      obtain ⟨v39, e39, g39, f39⟩ := hd 13 39 (by kernel_rfl) rfl
      have F39 := Lib.hid f39
      clear f39
      have hm : KidMid W1.drew r RW v39 (Value.slice (some ⟨g, off, none⟩) cl cap1) cl xs (.int .i64 z) := SA.out.late_at (Nat.ne_of_beq_eq_false rfl) (by kernel_rfl) (by kernel_rfl) (d := 39) rfl e39
      have hb : Blk RW r 45 #[uv, (Value.slice (some ⟨g, off, none⟩) cl cap1)] := SB.out.self rfl
      have y0 : RW.cell? ⟨r, 1, none⟩ = some (Value.slice (some ⟨g, off, none⟩) cl cap1) := (by rw [hb.cell]; rfl)
      have y1 := hb.frozen 1
      have hm2 := hm
      obtain ⟨g5, o5, c5, e5, -, -, -⟩ := hm2
      subst e5
      have HM5 := Lib.hid hm; have HB5 := Lib.hid hb
      clear hm hb
      clear hk hd
      have HR := Lib.hid hR
      clear hR
      go_simp
      exact hK undef _ ((Only.refl (fun q => q < W1.heap.size) RW).setCell (p := ⟨r, 1, none⟩) (fun _ => HGG.out) _) trivial (SideVOut.late (Nat.ne_of_beq_eq_false rfl) (by kernel_rfl) (by kernel_rfl) (fun u hu => KidMid.setB hu HB5.out _ _)) (SideVOut.self rfl ⟨_, RW, HM5.out, HB5.out, rfl⟩)
  intro vs RW hR hpA hpB hF
  clear hpA
  obtain ⟨ub, -, hpB⟩ := hpB
  have q0 : vs 0 = .pointer (some ⟨r, 0, none⟩) := hF 0 (by decide)
  have q1 : vs 1 = .pointer (some ⟨r, 0, none⟩) := hF 1 (by decide)
  have q2 : vs 2 = .pointer (some ⟨r, 0, none⟩) := hF 2 (by decide)
  have q3 : vs 3 = .pointer (some ⟨r, 1, none⟩) := hF 3 (by decide)
  have q4 : vs 4 = (Value.slice (some ⟨g, off, none⟩) cl cap1) := hF 4 (by decide)
  have q5 : vs 5 = .pointer (some ⟨r, 0, none⟩) := hF 5 (by decide)
  have q6 : vs 6 = .pointer (some ⟨r, 0, none⟩) := hF 6 (by decide)
  have q7 : vs 7 = .pointer (some ⟨r, 1, none⟩) := hF 7 (by decide)
  have q8 : vs 8 = (Value.slice (some ⟨g, off, none⟩) cl cap1) := hF 8 (by decide)
  have q9 : vs 9 = .int .i64 (k : Int) := hF 9 (by decide)
  have q10 : vs 10 = .pointer (some ⟨g, off + k, none⟩) := hF 10 (by decide)
  have q11 : vs 11 = .int .i64 z := hF 11 (by decide)
  have F38 := Lib.hid (hF 12 (by decide))
  have F39 := Lib.hid (hF 13 (by decide))
  have q14 : vs 14 = .pointer (some ⟨r, 0, none⟩) := hF 14 (by decide)
  have q15 : vs 15 = .pointer (some ⟨r, 1, none⟩) := hF 15 (by decide)
  simp only [setAll, List.setIfInBounds_toArray, List.set_cons_zero, List.set_cons_succ, q0, q1, q2, q3, q4, q5, q6, q7, q8, q9, q10, q11, q14, q15]
  clear hF q0 q1 q2 q3 q4 q5 q6 q7 q8 q9 q10 q11 q14 q15
  generalize vs 12 = v38 at *
  generalize vs 13 = v39 at *
  clear vs
  obtain ⟨v, W5, hm, hb, e⟩ := hpB
  clear F38 F39 ub hR
  have hr0 := HR1.out
  have hcl2 := HCL.out; have hxs := HXS.out; have hz := HZ.out; have huv := HUV.out
  subst hcl2; subst hxs; subst hz
  obtain ⟨hr2, hO2⟩ := hr0.addCa hm hb
  rw [← e] at hr2 hO2
  have HO2 := Lib.hid hO2; have HR2 := Lib.hid hr2
  have c0 := hr2.c0
  rw [← huv] at c0
  clear hr2 hO2 e hm hb hr0 huv
  have hsub : ((n + 1 : Nat) : Int) - 1 = (n : Int) := by omega
  generalize hn1 : n + 1 = n1 at *
  have HN1 := Lib.hid hn1
  clear hn1
  go_wp2
  go_ret2
  refine ⟨rfl, HO1.out.trans HO2.out (fun q hq hs => ?_), _, fun q hq => ?_, _, _, HR2.out⟩
  · rcases HS1.out q hs with h | h
    · exact h
    · omega
  · rcases hq with hq | hq
    · exact HS1.out q hq
    · exact .inr (Nat.le_trans HO1.out.size hq.1)
end Go.Proofs.Ytddklpphcfgooaa
