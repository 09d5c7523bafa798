/-
  The contracts of prog's split and jump; no condition beyond those that each theorem states.
-/
import Derived.Test.YtgfienopijlnkaaPut
namespace Go.Proofs.Ytgfienopijlnkaa
open Go.RowKit Go.Rb
attribute [local irreducible] Go.wpQuiet

theorem rd_set {w W : World} {A : Option Addr} {c : Nat} {s : List (Int × Int)} (h : SetV w (.slice A s.length c) s) (h' : SetV W (.slice A s.length c) s) : Rd W w.heap.size 2 A s.length (flat s) := by
  have r := Own.rd h
  have r' := Own.rd h'
  refine ⟨r'.1, fun h0 => ?_⟩
  obtain ⟨b, off, hA, hb, -⟩ := r.2 h0
  obtain ⟨b', off', hA', -, hc'⟩ := r'.2 h0
  subst hA
  simp only [Option.some.injEq, Addr.mk.injEq, and_true] at hA'
  obtain ⟨rfl, rfl⟩ := hA'
  exact ⟨b, off, rfl, hb, hc'⟩
theorem put_set {B m c : Nat} {A : Option Addr} {op : Int} {s : List (Int × Int)} {ps : List Ins} {w : World} (hM : Mk B w m ps) (hset : SetV w (.slice A s.length c) s) (hs : s.length ≤ 1000) (hps : ps.length ≤ 5000) :
    Calls Try.prog 22 #[.pointer (some ⟨m, 0, none⟩), .int .i64 op, .slice A s.length c] w fun e w' => e = .returned (.int .i64 (ps.length : Int)) ∧ Mk B w' m (ps ++ [⟨op, s, (ps.length : Int) + 1, 0⟩]) ∧ Fr B w w' := by
  refine put_any hM (rd_set hset hset) (Nat.le_refl _) hs hps ?_
  rintro W ⟨h0, sl, svs, h1, h2, h3, h4, h5⟩ ⟨sl', h1', hW⟩
  unfold Blk at h1 h1'
  rw [h1] at h1'
  simp only [Option.some.injEq, Obj.cells.injEq, and_true, Array.mk.injEq, List.cons.injEq] at h1'
  subst h1'
  exact rd_set hset (Own.only hset hW fun k hk e => own_ne_ hset h4 (by decide) hk e)
/-- A program under way, its slice's place told. -/
structure MkA (B : Nat) (w : World) (m g off c : Nat) (svs : List Value) (ps : List Ins) : Prop where
  h0 : B ≤ m
  h1 : Blk w m 50 #[.slice (some ⟨g, off, none⟩) ps.length c]
  h2 : B ≤ g
  h3 : svs.length = ps.length
  h4 : Own w 37 4 (.slice (some ⟨g, off, none⟩) ps.length c) ps.length (insRow ps svs)
  h5 : ∀ (i : Nat) (t : Ins), ps[i]? = some t → ∃ sv, svs[i]? = some sv ∧ SetV w sv t.set
theorem Mk.form {B m : Nat} {w : World} {ps : List Ins} (h : Mk B w m ps) (hn : 0 < ps.length) : ∃ g off c svs, MkA B w m g off c svs ps ∧ ps.length ≤ c := by
  obtain ⟨h0, sl, svs, h1, h2, h3, h4, h5⟩ := h
  obtain ⟨g, off, c, rfl, hc, -⟩ := h4.form hn
  exact ⟨g, off, c, svs, ⟨h0, h1, h2 g rfl, h3, h4, h5⟩, hc⟩
theorem MkA.mk_ {B m g off c : Nat} {w : World} {svs : List Value} {ps : List Ins} (h : MkA B w m g off c svs ps) : Mk B w m ps :=
  ⟨h.h0, _, svs, h.h1, fun k hk => by obtain rfl : g = k := (by simpa [Value.ownBlock] using hk); exact h.h2, h.h3, h.h4, h.h5⟩
theorem MkA.ne {B m g off c : Nat} {w : World} {svs : List Value} {ps : List Ins} (h : MkA B w m g off c svs ps) : g ≠ m := fun e => own_ne_blk_ h.h4 h.h1 (by decide) (by simp [Value.ownBlock, e])
/-- What of it is there: cells and places. -/
theorem MkA.cells {B m g off c : Nat} {w : World} {svs : List Value} {ps : List Ins} (h : MkA B w m g off c svs ps) (i : Nat) (hi : i < ps.length) : w.cell? ⟨m, 0, none⟩ = some (.slice (some ⟨g, off, none⟩) ps.length c) ∧ w.frozen? ⟨m, 0, none⟩ = false ∧ m < w.heap.size ∧ g < w.heap.size ∧
    (∃ u, w.cell? ⟨g, off + i * 4 + 2, none⟩ = some u) ∧ (∃ u, w.cell? ⟨g, off + i * 4 + 3, none⟩ = some u) ∧ w.frozen? ⟨g, off + i * 4 + 2, none⟩ = false ∧ w.frozen? ⟨g, off + i * 4 + 3, none⟩ = false := by
  obtain ⟨g', off', c', e, hc, -, hgl, hcell, hfz⟩ := h.h4.form (by omega)
  simp only [Value.slice.injEq, Option.some.injEq, Addr.mk.injEq, true_and, and_true] at e
  obtain ⟨⟨rfl, rfl⟩, rfl⟩ := e
  have hrl := insRow_len _ _ h.h3
  have y0 := h.h1.cell 0
  simp only [List.getElem?_toArray, List.getElem?_cons_zero] at y0
  exact ⟨y0, h.h1.frozen 0, h.h1.lt, hgl, ⟨_, by rw [Nat.add_assoc, hcell (i * 4 + 2) (by omega)]; exact List.getElem?_eq_getElem (by rw [hrl]; omega)⟩,
    ⟨_, by rw [Nat.add_assoc, hcell (i * 4 + 3) (by omega)]; exact List.getElem?_eq_getElem (by rw [hrl]; omega)⟩, hfz _, hfz _⟩
theorem MkA.set {B m g off c i j : Nat} {w : World} {ps ps' : List Ins} {svs : List Value} {u : Value} (h : MkA B w m g off c svs ps)
    (hj : i * 4 + j < ps.length * 4) (hrow : (insRow ps svs).set (i * 4 + j) u = insRow ps' svs) (hlen : ps'.length = ps.length) (hset : ∀ (i : Nat) (t : Ins), ps'[i]? = some t → ∃ t', ps[i]? = some t' ∧ t'.set = t.set) :
    MkA B (w.setCell ⟨g, off + i * 4 + j, none⟩ u) m g off c svs ps' ∧ Fr B w (w.setCell ⟨g, off + i * 4 + j, none⟩ u) := by
  have hgm := h.ne
  obtain ⟨h0, h1, h2, h3, h4, h5⟩ := h
  have hfr : Fr B w (w.setCell ⟨g, off + i * 4 + j, none⟩ u) := by
    rcases h4.2 with ⟨e, _⟩ | ⟨g', off', cap, cur, e, hg, _⟩
    · simp at e
    · simp only [Value.slice.injEq, Option.some.injEq, Addr.mk.injEq, true_and, and_true] at e
      obtain ⟨⟨rfl, rfl⟩, rfl⟩ := e
      exact fr_set hg h2 (.inl rfl) _ _
  refine ⟨⟨h0, ?_, h2, by rw [h3, hlen], ?_, fun i1 t hi => ?_⟩, hfr⟩
  · rw [hlen]
    exact h1.far (fun e => hgm e.symm) u
  · rw [hlen, ← hrow, Nat.add_assoc]
    exact h4.store (i * 4 + j) hj u
  · obtain ⟨t', ht', e⟩ := hset i1 t hi
    obtain ⟨sv, e1, hs⟩ := h5 i1 t' ht'
    refine ⟨sv, e1, ?_⟩
    rw [← e]
    exact SetV.fr hs hfr
theorem MkA.y {B m g off c i : Nat} {w : World} {ps : List Ins} {svs : List Value} (h : MkA B w m g off c svs ps) (hi : i < ps.length) (v : Int) : MkA B (w.setCell ⟨g, off + i * 4 + 3, none⟩ (.int .i64 v)) m g off c svs (ps.modify i (setY v)) ∧ Fr B w (w.setCell ⟨g, off + i * 4 + 3, none⟩ (.int .i64 v)) :=
  h.set (by omega) (insRow_y _ _ h.h3 i hi v) (by simp) (modify_set fun _ => rfl)
theorem MkA.xy {B m g off c i : Nat} {w : World} {ps : List Ins} {svs : List Value} (h : MkA B w m g off c svs ps) (hi : i < ps.length) (u v : Int) :
    MkA B ((w.setCell ⟨g, off + i * 4 + 2, none⟩ (.int .i64 u)).setCell ⟨g, off + i * 4 + 3, none⟩ (.int .i64 v)) m g off c svs ((ps.modify i (setX u)).modify i (setY v)) ∧ Fr B w ((w.setCell ⟨g, off + i * 4 + 2, none⟩ (.int .i64 u)).setCell ⟨g, off + i * 4 + 3, none⟩ (.int .i64 v)) := by
  obtain ⟨h1, f1⟩ := h.set (i := i) (j := 2) (u := .int .i64 u) (by omega) (insRow_x _ _ h.h3 i hi u) (by simp) (modify_set fun _ => rfl)
  obtain ⟨h2, f2⟩ := h1.y (i := i) (by simpa using hi) v
  exact ⟨h2, f1.trans f2⟩
theorem Fr.drew_ {B : Nat} {w w' : World} (h : Fr B w w') : Fr B w w'.drew := ⟨h.below.drew, fun k cs t hb h1 h2 => h.keep k cs t hb h1 h2⟩
def splitP (ps : List Ins) : List Ins := ps ++ [⟨2, [], (ps.length : Int) + 1, 0⟩]
def jumpP (to : Int) (ps : List Ins) : List Ins := ((splitP ps).modify ps.length (setX to)).modify ps.length (setY to)
theorem split_len (ps : List Ins) : (splitP ps).length = ps.length + 1 := by simp [splitP]
theorem jump_len (to : Int) (ps : List Ins) : (jumpP to ps).length = ps.length + 1 := by simp [jumpP, splitP]
set_option maxHeartbeats 400000 in
theorem split_any {B m : Nat} {ps : List Ins} {w : World} (hM : Mk B w m ps) (hps : ps.length ≤ 5000) :
    Calls Try.prog 34 #[.pointer (some ⟨m, 0, none⟩)] w fun e w' => e = .returned (.int .i64 (ps.length : Int)) ∧ Mk B w' m (splitP ps) ∧ Fr B w w' := by
  have HP := Lib.hid (put_set (op := 2) hM (SetV.nil_ w) (by simp) hps)
  clear hM
  go_enter Try.func34, Try.ntmps34
  go_wp2_with fail
  refine HP.out.mono ?_
  rintro e1 w1 ⟨rfl, hm, hf⟩
  have HM := Lib.hid hm
  have HF := Lib.hid hf
  clear hm hf
  go_wp2_with fail
  go_ret
  exact ⟨rfl, HM.out, HF.out⟩
set_option maxRecDepth 20000 in
set_option maxHeartbeats 1000000 in
theorem jump_any {B m : Nat} {to : Int} {ps : List Ins} {w : World} (hM : Mk B w m ps) (hps : ps.length ≤ 4999) :
    Calls Try.prog 35 #[.pointer (some ⟨m, 0, none⟩), .int .i64 to] w fun e w' => e = .returned (.int .i64 (ps.length : Int)) ∧ Mk B w' m (jumpP to ps) ∧ Fr B w w' := by
  have HP := Lib.hid (split_any hM (by omega))
  obtain ⟨n, hn⟩ : ∃ n, ps.length = n := ⟨_, rfl⟩
  have HN := Lib.hid hn
  rw [hn] at HP hps ⊢
  clear hM hn
  go_enter Try.func35, Try.ntmps35
  go_wp2_with fail
  refine HP.out.mono ?_
  rintro e1 w1 ⟨rfl, hm, hf⟩
  have HM := Lib.hid hm
  have HF := Lib.hid hf
  have hl1 : (splitP ps).length = n + 1 := by rw [split_len, HN.out]
  obtain ⟨g, off, c, svs, hA, hc⟩ := hm.form (by omega)
  obtain ⟨y0, z0, hml, hgl, ⟨u2, c2⟩, ⟨u3, c3⟩, f2, f3⟩ := hA.cells n (by omega)
  have hgm := hA.ne
  obtain ⟨hA2, hF2⟩ := hA.xy (i := n) (by omega) to to
  have HA2 := Lib.hid (hA2.mk_.under (Below.refl _ _).drew)
  have HF2 := Lib.hid (hf.trans hF2)
  rw [hl1] at y0 hc
  have hnc : n < n + 1 := by omega
  have HJ : Hid (jumpP to ps = ((splitP ps).modify n (setX to)).modify n (setY to)) := by show _ = _; rw [jumpP, HN.out]
  clear hm hf HP hA hA2 hF2 hl1
  go_upto_region 2 with fail
  go_region
  go_wp2_with fail
  go_ret
  exact ⟨rfl, by rw [HJ.out]; exact HA2.out, HF2.out.drew_⟩
end Go.Proofs.Ytgfienopijlnkaa
