/-
  The contract of reedbedref09.Tree; no condition beyond those that each theorem states.
-/
import Derived.Test.YtgfienopijlnkaaPar12
namespace Go.Proofs.Ytgfienopijlnkaa
open Go.RowKit Go.Rb
attribute [local irreducible] Go.wpQuiet

theorem infoN : (Try.prog.info? 28).map (fun i => (i.zero, i.size, i.bytes)) = some (some zeroNd, 5, 72) := by kernel_rfl
/-- The blocks that a tree under way may have. -/
def SS (B : Nat) (av pv : Value) : Nat → Prop := fun k => B < k ∧ av.ownBlock ≠ some k ∧ pv.ownBlock ≠ some k
/-- The loop's state: alternatives, pieces; the result's cell. -/
structure TI (w wr : World) (av pv : Value) (alts pieces : List Nd) : Prop where
  a : NdsO wr (SS w.heap.size av pv) av alts
  p : NdsO wr (SS w.heap.size av pv) pv pieces
  ab : ∀ k, av.ownBlock = some k → w.heap.size < k
  pb : ∀ k, pv.ownBlock = some k → w.heap.size < k
  ne : ∀ k, av.ownBlock = some k → pv.ownBlock ≠ some k
  blk : Blk wr w.heap.size 28 #[.int .i64 0, .slice none 0 0, .int .i64 0, .int .i64 0, .slice none 0 0]
  below : Below w.heap.size w wr
/-- A piece is put behind. -/
theorem TI.piece {w wr w2 w3 : World} {av pv pv' x : Value} {alts pieces : List Nd} {vs : List Value} {n : Nd} (h : TI w wr av pv alts pieces) (hb : Below wr.heap.size wr w2) (hg : w2.grownBy w3 pv.ownBlock)
    (hl : vs.length = pieces.length) (hv : ∀ (i : Nat) (m : Nd), pieces[i]? = some m → NdV wr (SS w.heap.size av pv) (vs.getD i undef) m) (hP : Own wr 28 5 pv pieces.length (vs.flatMap cellsV))
    (hO : Own w3 28 5 pv' (pieces.length + 1) (vs.flatMap cellsV ++ cellsV x)) (hat : pv'.ownBlock = pv.ownBlock ∨ ∃ k, pv'.ownBlock = some k ∧ wr.heap.size ≤ k) (hx : NdV w2 (fun k => wr.heap.size ≤ k ∧ pv'.ownBlock ≠ some k) x n) : TI w w3 av pv' alts (pieces ++ [n]) := by
  have hP2 : Own w2 28 5 pv pieces.length (vs.flatMap cellsV) := hP.below hb fun k hk => hP.lt hk
  obtain ⟨bs, a1, a2, a3⟩ := h.a
  have hss : ∀ k, SS w.heap.size av pv k → k < wr.heap.size → SS w.heap.size av pv' k := fun k hk hlt => ⟨hk.1, hk.2.1, fun e => by
    rcases hat with h1 | ⟨j, h1, h2⟩
    · exact hk.2.2 (h1 ▸ e)
    · rw [h1] at e; have := Option.some.inj e; omega⟩
  have hnew : ∀ k, wr.heap.size ≤ k → av.ownBlock ≠ some k := fun k hk e => by have := a2.lt e; omega
  have hnewp : ∀ k, wr.heap.size ≤ k → pv.ownBlock ≠ some k := fun k hk e => by have := hP.lt e; omega
  have hlt := h.blk.lt
  have key : ∀ (v : Value) (m : Nd), NdV wr (SS w.heap.size av pv) v m → NdV w3 (SS w.heap.size av pv') v m := fun v m hm =>
    (((hm.mono (T := fun k => SS w.heap.size av pv k ∧ k < wr.heap.size) fun k hk hlt => ⟨hk, hlt⟩).under hb).grown hP2 hg (fun k hk => hk.1.2.2)).mono fun k hk _ => hss k hk.1 hk.2
  refine ⟨⟨bs, a1, (a2.below hb fun k hk => a2.lt hk).grown hg fun k hk => h.ne k hk, fun i n hi => key _ _ (a3 i n hi)⟩, nds_push hl hO (fun i m hi => key _ _ (hv i m hi)) ?_, h.ab, ?_, ?_, ?_, ?_⟩
  · exact (hx.grown hP2 hg fun k hk => hnewp k hk.1).mono fun k hk _ => ⟨by have := hk.1; omega, hnew k hk.1, hk.2⟩
  · intro k hk
    rcases hat with h1 | ⟨j, h1, h2⟩
    · exact h.pb k (h1 ▸ hk)
    · rw [h1] at hk; have := Option.some.inj hk; omega
  · intro k hk e
    rcases hat with h1 | ⟨j, h1, h2⟩
    · exact h.ne k hk (h1 ▸ e)
    · rw [h1] at e; have := Option.some.inj e; have := a2.lt hk; omega
  · exact (h.blk.below hb hlt).grown hg (fun e => by have := h.pb _ e.symm; omega)
  · exact Below.grown (h.below.trans (hb.mono h.below.size)) hg (by have := hb.size; omega) (fun k hk => by have := h.pb k hk; omega)
/-- The pieces become an alternative. -/
theorem TI.alt {w wr w2 w3 : World} {av pv av' x : Value} {alts pieces : List Nd} {vs : List Value} {n : Nd} (h : TI w wr av pv alts pieces) (hb : Below wr.heap.size wr w2) (hg : w2.grownBy w3 av.ownBlock)
    (hl : vs.length = alts.length) (hv : ∀ (i : Nat) (m : Nd), alts[i]? = some m → NdV wr (SS w.heap.size av pv) (vs.getD i undef) m) (hA : Own wr 28 5 av alts.length (vs.flatMap cellsV))
    (hO : Own w3 28 5 av' (alts.length + 1) (vs.flatMap cellsV ++ cellsV x)) (hat : av'.ownBlock = av.ownBlock ∨ ∃ k, av'.ownBlock = some k ∧ wr.heap.size ≤ k)
    (hx : NdV w2 (fun k => SS w.heap.size av pv k ∧ k < wr.heap.size ∨ pv.ownBlock = some k) x n) : TI w w3 av' (.slice none 0 0) (alts ++ [n]) [] := by
  have hA2 : Own w2 28 5 av alts.length (vs.flatMap cellsV) := hA.below hb fun k hk => hA.lt hk
  obtain ⟨qs, q1, q2, q3⟩ := h.p
  have hlt := h.blk.lt
  have hnil : ∀ k, (Value.slice none 0 0).ownBlock ≠ some k := fun k => by simp [Value.ownBlock]
  have hfar : ∀ k, k < wr.heap.size → av.ownBlock ≠ some k → av'.ownBlock ≠ some k := fun k hk hn e => by
    rcases hat with h1 | ⟨j, h1, h2⟩
    · exact hn (h1 ▸ e)
    · rw [h1] at e; have := Option.some.inj e; omega
  have key : ∀ (v : Value) (m : Nd), NdV wr (SS w.heap.size av pv) v m → NdV w3 (SS w.heap.size av' (.slice none 0 0)) v m := fun v m hm =>
    (((hm.mono (T := fun k => SS w.heap.size av pv k ∧ k < wr.heap.size) fun k hk hlt => ⟨hk, hlt⟩).under hb).grown hA2 hg (fun k hk => hk.1.2.1)).mono fun k hk _ => ⟨hk.1.1, hfar k hk.2 hk.1.2.1, hnil k⟩
  refine ⟨nds_push hl hO (fun i m hi => key _ _ (hv i m hi)) ?_, NdsO.nil_ _ _, ?_, fun k hk => absurd hk (hnil k), fun k _ => hnil k, ?_, ?_⟩
  · refine (hx.grown hA2 hg fun k hk => ?_).mono fun k hk _ => ?_
    · rcases hk with hk | hk
      · exact hk.1.2.1
      · exact fun e => h.ne k e hk
    · rcases hk with hk | hk
      · exact ⟨hk.1.1, hfar k hk.2 hk.1.2.1, hnil k⟩
      · exact ⟨h.pb k hk, hfar k (q2.lt hk) (fun e => h.ne k e hk), hnil k⟩
  · intro k hk
    rcases hat with h1 | ⟨j, h1, h2⟩
    · exact h.ab k (h1 ▸ hk)
    · rw [h1] at hk; have := Option.some.inj hk; omega
  · exact (h.blk.below hb hlt).grown hg (fun e => by have := h.ab _ e.symm; omega)
  · exact Below.grown (h.below.trans (hb.mono h.below.size)) hg (by have := hb.size; omega) (fun k hk => by have := h.ab k hk; omega)
end Go.Proofs.Ytgfienopijlnkaa
