/-
  the contract of reedbedref09.Tree; a part of a slice of tokens; append onto a slice of the call's own: what is too small to be grown into stays; a rule for regions that draw their order and end in a chain that waits for all else: the head's operations are walked once each, the tail in its order ('region_tail'); a count behind a piece: the rows of the region that makes it, and the state behind it; no condition beyond those that each theorem states.
-/
import Derived.Test.YtjfkppbfckgckaaG04
import Derived.Test.YtjfkppbfckgckaaG01
import Derived.StillTail
set_option linter.unusedVariables false
set_option linter.unusedSimpArgs false
namespace Go.Proofs.Ytjfkppbfckgckaa
set_option maxRecDepth 20000
open Go.RowKit Go.Rb
attribute [local irreducible] Go.wpQuiet

theorem infoN : (Try.prog.info? 52).map (fun i => (i.zero, i.size, i.bytes)) = some (some zeroNd, 5, 72) := by kernel_rfl
/-- The blocks that a tree under way may have. -/
def SS (B : Nat) (av pv : Value) : Nat → Prop := fun k => B < k ∧ av.ownBlock ≠ some k ∧ pv.ownBlock ≠ some k
/-- The loop's state: alternatives, pieces; the result's cell. -/
structure TI (w wr : World) (av pv : Value) (alts pieces : List Nd) : Prop where
  a : NdsO wr (SS w.heap.size av pv) av alts
  p : NdsO wr (SS w.heap.size av pv) pv pieces
  ab : ∀ k, av.ownBlock = some k → w.heap.size < k
  pb : ∀ k, pv.ownBlock = some k → w.heap.size < k
  ne : ∀ k, av.ownBlock = some k → pv.ownBlock ≠ some k
  blk : Blk wr w.heap.size 52 #[.int .i64 0, .slice none 0 0, .int .i64 0, .int .i64 0, .slice none 0 0]
  below : Below w.heap.size w wr
/-- A piece is put behind. -/
theorem TI.piece {w wr w2 w3 : World} {av pv pv' x : Value} {alts pieces : List Nd} {vs : List Value} {n : Nd} (h : TI w wr av pv alts pieces) (hb : Below wr.heap.size wr w2) (hg : w2.grownBy w3 pv.ownBlock)
    (hl : vs.length = pieces.length) (hv : ∀ (i : Nat) (m : Nd), pieces[i]? = some m → NdV wr (SS w.heap.size av pv) (vs.getD i undef) m) (hP : Own wr 52 5 pv pieces.length (vs.flatMap cellsV))
    (hO : Own w3 52 5 pv' (pieces.length + 1) (vs.flatMap cellsV ++ cellsV x)) (hat : pv'.ownBlock = pv.ownBlock ∨ ∃ k, pv'.ownBlock = some k ∧ wr.heap.size ≤ k) (hx : NdV w2 (fun k => wr.heap.size ≤ k ∧ pv'.ownBlock ≠ some k) x n) : TI w w3 av pv' alts (pieces ++ [n]) := by
  have hP2 : Own w2 52 5 pv pieces.length (vs.flatMap cellsV) := hP.below hb fun k hk => hP.lt hk
  obtain ⟨bs, a1, a2, a3⟩ := h.a
  have hss : ∀ k, SS w.heap.size av pv k → k < wr.heap.size → SS w.heap.size av pv' k := fun k hk hlt => ⟨hk.1, hk.2.1, fun e => by
    rcases hat with h1 | ⟨j, h1, h2⟩
    · exact hk.2.2 (h1 ▸ e)
    · rw [h1] at e; have := Option.some.inj e; omega⟩
  have hnew : ∀ k, wr.heap.size ≤ k → av.ownBlock ≠ some k := fun k hk e => by have := a2.lt e; omega
  have hnewp : ∀ k, wr.heap.size ≤ k → pv.ownBlock ≠ some k := fun k hk e => by have := hP.lt e; omega
  have hlt := h.blk.lt
  have key : ∀ (v : Value) (m : Nd), NdV wr (SS w.heap.size av pv) v m → NdV w3 (SS w.heap.size av pv') v m := fun v m hm =>
    (((hm.mono (T := fun k => SS w.heap.size av pv k ∧ k < wr.heap.size) fun k hk hlt => ⟨hk, hlt⟩).under hb).grown hP2 hg (fun k hk => hk.1.2.2)).mono fun k hk _ => hss k hk.1 hk.2
  refine ⟨⟨bs, a1, (a2.below hb fun k hk => a2.lt hk).grown hg fun k hk => h.ne k hk, fun i n hi => key _ _ (a3 i n hi)⟩, nds_push hl hO (fun i m hi => key _ _ (hv i m hi)) ?_, h.ab, ?_, ?_, ?_, ?_⟩
  · exact (hx.grown hP2 hg fun k hk => hnewp k hk.1).mono fun k hk _ => ⟨by have := hk.1; omega, hnew k hk.1, hk.2⟩
  · intro k hk
    rcases hat with h1 | ⟨j, h1, h2⟩
    · exact h.pb k (h1 ▸ hk)
    · rw [h1] at hk; have := Option.some.inj hk; omega
  · intro k hk e
    rcases hat with h1 | ⟨j, h1, h2⟩
    · exact h.ne k hk (h1 ▸ e)
    · rw [h1] at e; have := Option.some.inj e; have := a2.lt hk; omega
  · exact (h.blk.below hb hlt).grown hg (fun e => by have := h.pb _ e.symm; omega)
  · exact Below.grown (h.below.trans (hb.mono h.below.size)) hg (by have := hb.size; omega) (fun k hk => by have := h.pb k hk; omega)
/-- The pieces become an alternative. -/
theorem TI.alt {w wr w2 w3 : World} {av pv av' x : Value} {alts pieces : List Nd} {vs : List Value} {n : Nd} (h : TI w wr av pv alts pieces) (hb : Below wr.heap.size wr w2) (hg : w2.grownBy w3 av.ownBlock)
    (hl : vs.length = alts.length) (hv : ∀ (i : Nat) (m : Nd), alts[i]? = some m → NdV wr (SS w.heap.size av pv) (vs.getD i undef) m) (hA : Own wr 52 5 av alts.length (vs.flatMap cellsV))
    (hO : Own w3 52 5 av' (alts.length + 1) (vs.flatMap cellsV ++ cellsV x)) (hat : av'.ownBlock = av.ownBlock ∨ ∃ k, av'.ownBlock = some k ∧ wr.heap.size ≤ k)
    (hx : NdV w2 (fun k => SS w.heap.size av pv k ∧ k < wr.heap.size ∨ pv.ownBlock = some k) x n) : TI w w3 av' (.slice none 0 0) (alts ++ [n]) [] := by
  have hA2 : Own w2 52 5 av alts.length (vs.flatMap cellsV) := hA.below hb fun k hk => hA.lt hk
  obtain ⟨qs, q1, q2, q3⟩ := h.p
  have hlt := h.blk.lt
  have hnil : ∀ k, (Value.slice none 0 0).ownBlock ≠ some k := fun k => by simp [Value.ownBlock]
  have hfar : ∀ k, k < wr.heap.size → av.ownBlock ≠ some k → av'.ownBlock ≠ some k := fun k hk hn e => by
    rcases hat with h1 | ⟨j, h1, h2⟩
    · exact hn (h1 ▸ e)
    · rw [h1] at e; have := Option.some.inj e; omega
  have key : ∀ (v : Value) (m : Nd), NdV wr (SS w.heap.size av pv) v m → NdV w3 (SS w.heap.size av' (.slice none 0 0)) v m := fun v m hm =>
    (((hm.mono (T := fun k => SS w.heap.size av pv k ∧ k < wr.heap.size) fun k hk hlt => ⟨hk, hlt⟩).under hb).grown hA2 hg (fun k hk => hk.1.2.1)).mono fun k hk _ => ⟨hk.1.1, hfar k hk.2 hk.1.2.1, hnil k⟩
  refine ⟨nds_push hl hO (fun i m hi => key _ _ (hv i m hi)) ?_, NdsO.nil_ _ _, ?_, fun k hk => absurd hk (hnil k), fun k _ => hnil k, ?_, ?_⟩
  · refine (hx.grown hA2 hg fun k hk => ?_).mono fun k hk _ => ?_
    · rcases hk with hk | hk
      · exact hk.1.2.1
      · exact fun e => h.ne k e hk
    · rcases hk with hk | hk
      · exact ⟨hk.1.1, hfar k hk.2 hk.1.2.1, hnil k⟩
      · exact ⟨h.pb k hk, hfar k (q2.lt hk) (fun e => h.ne k e hk), hnil k⟩
  · intro k hk
    rcases hat with h1 | ⟨j, h1, h2⟩
    · exact h.ab k (h1 ▸ hk)
    · rw [h1] at hk; have := Option.some.inj hk; omega
  · exact (h.blk.below hb hlt).grown hg (fun e => by have := h.ab _ e.symm; omega)
  · exact Below.grown (h.below.trans (hb.mono h.below.size)) hg (by have := hb.size; omega) (fun k hk => by have := h.ab k hk; omega)
end Go.Proofs.Ytjfkppbfckgckaa
namespace Go.Proofs.Ytjfkppbfckgckaa
set_option maxRecDepth 20000
open Go.RowKit Go.Rb

theorem tks_part {w : World} {A : Option Addr} {l : List Tk} {n c : Nat} (h : TksR w A l) (hl : l.length = n) (hc : n ≤ c) (lo hi : Nat) (h1 : lo ≤ hi) (h2 : hi ≤ n) :
    ∃ A' c', (∀ W, (Instr.slice 72 (.slice A n c) (some (.int .i64 (lo : Int))) (some (.int .i64 (hi : Int))) none).run Try.prog W = .ok (.slice A' (hi - lo) c') W) ∧ TksR w A' ((l.take hi).drop lo) ∧ hi - lo ≤ c' := by
  have hs : ∀ W, (sizeOf (Try.prog.elem 72)).run Try.prog W = .ok 5 W := fun W => by kernel_rfl
  have hrun : ∀ W, (Instr.slice 72 (.slice A n c) (some (.int .i64 (lo : Int))) (some (.int .i64 (hi : Int))) none).run Try.prog W = .ok (sliced A lo hi c 5) W := fun W => by
    rw [run_slice_lh (P := Try.prog) W 72 A n c Try.underlying72 .i64 .i64 (lo : Int) (hi : Int) (by omega) (by omega) (by omega), hs W]
    simp [Result.andThen]
  refine ⟨_, c - lo, fun W => (hrun W).trans rfl, fun hne => ?_, by omega⟩
  have hlt : lo < hi := by
    rcases Nat.lt_or_ge lo hi with h | h
    · exact h
    · exact absurd (List.drop_eq_nil_of_le (by rw [List.length_take]; omega)) hne
  obtain ⟨b, off, rfl, hb, ht⟩ := h (fun e => by rw [e] at hl; simp at hl; omega)
  refine ⟨b, off + lo * 5, ?_, hb, fun i t hi' => ?_⟩
  · rw [if_neg (by omega)]
    simp [Rb.add_plain]
  · rw [List.getElem?_drop] at hi'
    have hk : lo + i < hi := by
      have := (List.getElem?_eq_some_iff.1 hi').1
      rw [List.length_take] at this
      omega
    rw [List.getElem?_take_of_lt hk] at hi'
    obtain ⟨sv, k0, k1, k2, k3, k4, k5⟩ := ht (lo + i) t hi'
    have e : off + (lo + i) * 5 = off + lo * 5 + i * 5 := by omega
    rw [e] at k0 k1 k2 k3 k4
    exact ⟨sv, k0, k1, k2, k3, k4, k5⟩
end Go.Proofs.Ytjfkppbfckgckaa
namespace Go.Rb
open Go.RowKit

section
variable {P : Program} (w : World)

theorem run_append_keep (t ty : TypeId) (e : TypeId) (i : TypeInfo) (z : Value) (sz bytes : Nat) (ht : P.underlying t = some (.slice e)) (hi : P.info? e = some i) (hz : i.zero = some z)
    (hsize : i.size = sz) (hby : i.bytes = bytes) (hzs : z.cells.size = sz) (hsz : 0 < sz)
    (v : Value) (n : Nat) (xs : List Value) (hown : Own w e sz v n xs)
    (a : Addr) (m c : Nat) (news : List Value) (hl : news.length = m * sz) (hnews : ∀ j u, news[j]? = some u → w.cell? (a.add j) = some u) (h1 : ∀ u ∈ news, u.oneCell' = true)
    (hm : 0 < m) (h63 : n + m ≤ maxLen) (hbytes : (n + m) * bytes ≤ 140737488355328) :
    ∃ g off cap w', (Builtin.append_ #[t, t] ty #[v, .slice (some a) m c]).run P w = .ok (.slice (some ⟨g, off, none⟩) (n + m) cap) w' ∧
      Own w' e sz (.slice (some ⟨g, off, none⟩) (n + m) cap) (n + m) (xs ++ news) ∧ w.grownBy w' v.ownBlock ∧ (v.ownBlock = some g ∨ g = w.heap.size) ∧
      (∀ k cs, Blk w k e cs → cs.size < (n + m) * sz → Blk w' k e cs) := by
  subst hsize
  subst hby
  have hsmall : n + m ≤ 9223372036854775807 := by simp only [maxLen] at h63; omega
  have hlen : (xs ++ news).length = (n + m) * i.size := by rw [List.length_append, hown.1, hl, Nat.add_mul]
  have grown : ∀ (old : Nat), old < n + m → ∀ (row : Option Nat),
      Own (w.drew.alloc (.cells (xs.toArray ++ news.toArray ++ Builtin.zeroCells z.cells (grownCap w (n + m) old e - (n + m))) e)) e i.size
        (.slice (some ⟨w.heap.size, 0, none⟩) (n + m) (grownCap w (n + m) old e)) (n + m) (xs ++ news) ∧
      w.grownBy (w.drew.alloc (.cells (xs.toArray ++ news.toArray ++ Builtin.zeroCells z.cells (grownCap w (n + m) old e - (n + m))) e)) row := by
    intro old ho row
    have hge := grownCap_ge w (n + m) old e
    have hcm : grownCap w (n + m) old e ≤ maxLen := grownCap_le_maxLen w (n + m) old e h63
    refine ⟨⟨hlen, .inr ⟨w.heap.size, 0, _, _, rfl, heap_alloc_new w.drew _, hge, hcm, ?_, ?_⟩⟩, ⟨rfl, rfl, rfl, by simp, fun k hk _ => Below.heap_alloc w.drew _ k hk⟩⟩
    · simp only [Array.size_append, List.size_toArray, size_zeroCells, hzs, hown.1, hl, ← Nat.add_mul]
      rw [show n + m + (grownCap w (n + m) old e - (n + m)) = grownCap w (n + m) old e by omega]
      omega
    · simp only [Array.toList_append, List.append_assoc, List.drop_zero]
      rw [← List.append_assoc, ← hlen]
      exact List.take_left
  rcases hown.2 with ⟨rfl, rfl⟩ | ⟨g, off, cap, cur, rfl, hg, hnc, hcm, hcs, htake⟩
  · have hx : xs = [] := List.eq_nil_of_length_eq_zero (by simpa using hown.1)
    subst hx
    have hr := run_append_nil (P := P) w t ty e i z ht hi hz a m c news hl hnews (by omega) (by omega) (by have hb := hbytes; simp only [Nat.zero_add] at hb; omega)
    have hgr := grown 0 (by omega) (Value.ownBlock (.slice none 0 0))
    simp only [Nat.zero_add, List.nil_append, Array.empty_append] at hgr ⊢
    exact ⟨_, _, _, _, hr, hgr.1, hgr.2, .inr rfl, fun k cs hk _ => Blk.alloc (w := w.drew) hk _⟩
  · by_cases hroom : n + m ≤ cap
    · have hle : (n + m) * i.size ≤ cap * i.size := Nat.mul_le_mul_right _ hroom
      have hsum : (n + m) * i.size = n * i.size + m * i.size := Nat.add_mul _ _ _
      have hfit : off + n * i.size + news.length ≤ cur.size := by rw [hl]; omega
      have hr := run_append_mid (P := P) w t ty e i ht hi g off n cap cur hg a m c news hl hnews h1 hroom hfit
      refine ⟨_, _, _, _, hr, ⟨hlen, .inr ⟨g, off, cap, _, rfl, setRow_heap w g cur _ e _ hg, hroom, hcm, ?_, ?_⟩⟩, ⟨rfl, rfl, rfl, by simp, fun k _ hk => setRow_other w g k _ (fun e => hk (by simp [Value.ownBlock, e]))⟩, .inl (by simp [Value.ownBlock]), ?_⟩
      · simp only [List.size_toArray, List.length_append, List.length_take, List.length_drop, Array.length_toList]
        omega
      · rw [List.drop_append_of_le_length (by simp; omega), List.drop_append_of_le_length (by simp; omega), List.drop_take, Nat.add_sub_cancel_left, htake, ← hlen]
        exact List.take_left
      · intro k cs hk hlt
        have hne : k ≠ g := by
          rintro rfl
          unfold Blk at hk
          rw [hk] at hg
          simp only [Option.some.injEq, Obj.cells.injEq] at hg
          obtain ⟨rfl, _, _⟩ := hg
          omega
        exact (setRow_other w g k _ hne).trans hk
    · have holds : ∀ j u, xs[j]? = some u → w.cell? ((⟨g, off, none⟩ : Addr).add j) = some u := by
        intro j u hu
        have hj : j < n * i.size := by have := (List.getElem?_eq_some_iff.1 hu).1; rw [hown.1] at this; exact this
        rw [Addr.add_lit, cell_of_row w g (off + j) cur e (0, 0) hg]
        rw [← htake, List.getElem?_take, if_pos hj, List.getElem?_drop] at hu
        simpa using hu
      have hr := run_append_grow (P := P) w t ty e i z ht hi hz ⟨g, off, none⟩ n cap xs hown.1 holds a m c news hl hnews (by omega) (by omega) (growslice_fits (by omega) hbytes)
      have hgr := grown cap (by omega) (Value.ownBlock (.slice (some ⟨g, off, none⟩) n cap))
      exact ⟨_, _, _, _, hr, hgr.1, hgr.2, .inr rfl, fun k cs hk _ => Blk.alloc (w := w.drew) hk _⟩
theorem wpList_append_keep {ops : Array Oper} {rest : List Oper} {o : Oper} {a : Act} {Q : Exit → Act → World → Prop} (hgd : o.guard = none) (s x : Operand) (t : TypeId)
    (ho : o.op = .call { callee := .builtin .append, args := #[s, x], argTypes := #[t, t] })
    (e : TypeId) (i : TypeInfo) (z : Value) (sz bytes : Nat) (ht : P.underlying t = some (.slice e)) (hi : P.info? e = some i) (hz : i.zero = some z)
    (hsize : i.size = sz) (hby : i.bytes = bytes) (hzs : z.cells.size = sz) (hsz : 0 < sz)
    (v : Value) (n : Nat) (xs : List Value) (hs : a.eval s = v) (hown : Own w e sz v n xs)
    (ad : Addr) (m c : Nat) (news : List Value) (hx : a.eval x = .slice (some ad) m c) (hl : news.length = m * sz) (hnews : ∀ j u, news[j]? = some u → w.cell? (ad.add j) = some u) (h1 : ∀ u ∈ news, u.oneCell' = true)
    (hm : 0 < m) (h63 : n + m ≤ maxLen) (hbytes : (n + m) * bytes ≤ 140737488355328)
    (h : ∀ g off cap w', Own w' e sz (.slice (some ⟨g, off, none⟩) (n + m) cap) (n + m) (xs ++ news) → w.grownBy w' v.ownBlock → (v.ownBlock = some g ∨ g = w.heap.size) → (∀ k cs, Blk w k e cs → cs.size < (n + m) * sz → Blk w' k e cs) → wpList P ops Q rest (a.put o.dst (.slice (some ⟨g, off, none⟩) (n + m) cap)) w') : wpList P ops Q (o :: rest) a w := by
  refine wpList_plain hgd fun K hK => ?_
  obtain ⟨g, off, cap, w', hr, h2, h3, h4, h5⟩ := run_append_keep (P := P) w t o.type e i z sz bytes ht hi hz hsize hby hzs hsz v n xs hown ad m c news hl hnews h1 hm h63 hbytes
  unfold Oper.wp execOp
  simp only [ho, resolve, invoke, builtin, Sem.run_bind, Sem.run_pure, Result.andThen_ok, List.map_toArray, List.map_cons, List.map_nil, hs, hx, hr]
  exact hK _ _ (h g off cap w' h2 h3 h4 h5)
/-- append onto an empty slice that is none of nil: all that was stays as it was. -/
theorem run_append_e (t ty : TypeId) (e : TypeId) (i : TypeInfo) (z : Value) (sz bytes : Nat) (ht : P.underlying t = some (.slice e)) (hi : P.info? e = some i) (hz : i.zero = some z)
    (hsize : i.size = sz) (hby : i.bytes = bytes) (hzs : z.cells.size = sz) (hsz : 0 < sz) (g : Nat) (hown : Blk w g e #[])
    (B : Nat) (A : Option Addr) (m c : Nat) (news : List Value) (hr : Rd w B sz A m news) (h1 : ∀ u ∈ news, u.oneCell' = true)
    (h63 : m ≤ maxLen) (hbytes : m * bytes ≤ 140737488355328) :
    ∃ g' o c' w', (Builtin.append_ #[t, t] ty #[.slice (some ⟨g, 0, none⟩) 0 0, .slice A m c]).run P w = .ok (.slice (some ⟨g', o, none⟩) m c') w' ∧ Own w' e sz (.slice (some ⟨g', o, none⟩) m c') m news ∧ Below w.heap.size w w' ∧ (g' = g ∨ g' = w.heap.size) ∧ (m = 0 → Blk w' g' e #[]) := by
  have hO : Own w e sz (.slice (some ⟨g, 0, none⟩) 0 0) 0 [] := ⟨by simp, .inr ⟨g, 0, 0, #[], rfl, hown, Nat.le_refl _, by simp [maxLen], by simp, by simp⟩⟩
  rcases Nat.eq_zero_or_pos m with h0 | h0
  · subst h0
    obtain rfl : news = [] := List.eq_nil_of_length_eq_zero (by simpa using hr.1)
    exact ⟨g, 0, 0, w, run_append_zero w t ty e i sz ht hi _ 0 [] hO A c, hO, Below.refl _ _, .inl rfl, fun _ => hown⟩
  · obtain ⟨b, off, rfl, _, hc⟩ := hr.2 h0
    have hms : 0 < m * sz := Nat.mul_pos h0 hsz
    obtain ⟨g', o, cap, w', hrun, h2, h3, h4, h5⟩ := run_append_keep (P := P) w t ty e i z sz bytes ht hi hz hsize hby hzs hsz _ 0 [] hO ⟨b, off, none⟩ m c news hr.1
      (fun j u hu => by
        have hj : j < m * sz := by have := (List.getElem?_eq_some_iff.1 hu).1; rw [hr.1] at this; exact this
        rw [Addr.add_lit, hc j hj, hu]) h1 h0 (by omega) (by simpa using hbytes)
    simp only [Nat.zero_add, List.nil_append] at hrun h2 h5
    refine ⟨g', o, cap, w', hrun, h2, ⟨h3.os, h3.tape, h3.output, h3.size, fun k hk => ?_⟩, ?_, fun h => by omega⟩
    · by_cases hkg : k = g
      · subst hkg
        exact (h5 k #[] hown (by simpa using hms)).trans hown.symm
      · exact h3.block k hk (by simpa [Value.ownBlock] using hkg)
    · rcases h4 with h4 | h4
      · exact .inl (by simpa [Value.ownBlock] using h4.symm)
      · exact .inr h4
end
end Go.Rb
namespace Go.Rb
open Go.RowKit

def headListed (m n : Nat) : Array Bool := Array.replicate n true ++ Array.replicate (m - n) false
def tailOk (l : List Oper) (n : Nat) : Bool := decide (n < l.length) && Region.sinkB .any l.toArray n && Region.chainB .any l.toArray n && Region.seqB .any l.toArray (l.drop n).length n (headListed l.length n)
section
variable (P : Program) (l : List Oper) (n : Nat) (Q : Exit → Act → World → Prop) (R : World → World → Prop) (F : Nat → Value → World → Prop) (a0 : Act) (w0 : World)
/-- One operation of the head: a slot that the tail alone writes may be read. -/
def RHStep (i : Nat) (o : Oper) : Prop :=
  ∀ a W, R w0 W → (∀ t v, unwritten (l.take n) t = true → a0.tmps[t]? = some v → a.tmps[t]? = some v ∧ a.tmps.getD t undef = v) →
    (∀ j d, waitsFor o j = true → dstOf l j = some d → ∃ v, a.tmps[d]? = some v ∧ a.tmps.getD d undef = v ∧ F j v W) →
    ∀ K : Act → World → Prop, (∀ v W', R W W' → F i v W' → K (a.put o.dst v) W') →
      if Region.wanted o (yielded l.toArray a.tmps) = true then o.wp P a W K Q else K (a.put o.dst undef) W
def RHSteps : Nat → List Oper → Prop
  | _, [] => True
  | i, o :: rest => RHStep P l n Q R F a0 w0 i o ∧ RHSteps (i + 1) rest
end
section
variable {P : Program} {l : List Oper} {Q : Exit → Act → World → Prop} {R : World → World → Prop} {F : Nat → Value → World → Prop} {a0 : Act} {w0 : World}

theorem RHSteps.get {n k : Nat} {m : List Oper} (h : RHSteps P l n Q R F a0 w0 k m) {i : Nat} {o : Oper} (hi : m[i]? = some o) : RHStep P l n Q R F a0 w0 (k + i) o := by
  induction m generalizing k i with
  | nil => simp at hi
  | cons x m ih =>
    cases i with
    | zero => simp at hi; subst hi; exact h.1
    | succ i =>
      have := ih h.2 (by simpa using hi)
      rwa [show k + 1 + i = k + (i + 1) by omega] at this
theorem rg_tail {n : Nat} (htl : tailOk l n = true) (htrans : ∀ W W' W'', R W W' → R W' W'' → R W W'') (hstab : ∀ i v W W', F i v W → R W W' → F i v W') (hlex : lexOk l a0.tmps.size = true)
    (steps : RHSteps P l n Q R F a0 w0 0 (l.take n))
    (fin : ∀ a W, RGInv l R F a0 w0 (headListed l.length n) a W → wpList P l.toArray Q (l.drop n) a W) :
    ∀ (fuel : Nat) (listed : Array Bool) (a : Act) (W : World), (listed.toList.filter (· == false)).length = fuel → HeadInv .any l.toArray n listed → RGInv l R F a0 w0 listed a W → wpAny P .any l.toArray Q fuel listed a W := by
  simp only [tailOk, Bool.and_eq_true, decide_eq_true_eq] at htl
  obtain ⟨⟨⟨hnl, hsink⟩, hchain⟩, hseq⟩ := htl
  -- the head is done
  have full : ∀ (fuel : Nat) (listed : Array Bool) (a : Act) (W : World), (listed.toList.filter (· == false)).length = fuel → HeadInv .any l.toArray n listed → RGInv l R F a0 w0 listed a W → (∀ i, i < n → listed[i]? = some true) → wpAny P .any l.toArray Q fuel listed a W := by
    intro fuel listed a W hf hH hI hall
    have hrep : listed = headListed l.length n := by
      apply Array.ext_getElem?
      intro i
      unfold headListed
      by_cases hi : i < n
      · rw [hall i hi, Array.getElem?_append_left (by simpa using hi)]; simp [hi]
      · by_cases h2 : i < l.length
        · have h3 := hH.tail i (by omega) (by simpa using h2)
          have hs : i < listed.size := by rw [hI.size]; exact h2
          have h4 : listed[i]? = some false := by
            rw [Array.getElem?_eq_getElem hs]
            simpa [hs] using h3
          rw [h4, Array.getElem?_append_right (by simp; omega), Array.getElem?_replicate, if_pos (by simp; omega)]
        · rw [Array.getElem?_eq_none (by rw [hI.size]; omega), Array.getElem?_eq_none (by simp; omega)]
    subst hrep
    have hcnt : fuel = (l.drop n).length := by
      rw [← hf]
      simp [headListed]
    subst hcnt
    exact wpAny_of_seq (l.drop n) n _ a W (fun j => by simp) hseq (fin a W hI)
  intro fuel
  induction fuel with
  | zero =>
    intro listed a W hf hH hI
    exfalso
    have hlt : n < listed.size := by rw [hI.size]; exact hnl
    have h3 := hH.tail n (Nat.le_refl _) (by simpa using hnl)
    have h4 : listed[n] = false := by simpa [hlt] using h3
    have : false ∈ listed.toList.filter (· == false) := by
      rw [List.mem_filter]
      exact ⟨by rw [← h4]; simp, rfl⟩
    have hlen := List.length_pos_of_mem this
    omega
  | succ fuel ih =>
    intro listed a W hf hH hI
    by_cases hall : ∀ i, i < n → listed[i]? = some true
    · exact full _ listed a W hf hH hI hall
    · have ⟨i0, hi0, hu0, hready⟩ : ∃ i, i < n ∧ listed.getD i true = false ∧ i ∈ Region.ready .any l.toArray listed := by
        have hex : ∃ i, i < n ∧ listed[i]? ≠ some true := by
          by_cases h : ∃ i, i < n ∧ listed[i]? ≠ some true
          · exact h
          · exact absurd (fun i hi => by
              by_cases h2 : listed[i]? = some true
              · exact h2
              · exact absurd ⟨i, hi, h2⟩ h) hall
        obtain ⟨j, hj⟩ := hex
        have hmin : ∃ i, (i < n ∧ listed[i]? ≠ some true) ∧ ∀ m, m < i → ¬ (m < n ∧ listed[m]? ≠ some true) := by
          induction j using Nat.strongRecOn with
          | _ j ihj =>
            by_cases h : ∃ m, m < j ∧ (m < n ∧ listed[m]? ≠ some true)
            · obtain ⟨m, hm, hm2⟩ := h
              exact ihj m hm hm2
            · exact ⟨j, hj, fun m hm hm2 => h ⟨m, hm, hm2⟩⟩
        obtain ⟨i, ⟨hi, hne⟩, hleast⟩ := hmin
        have hil : i < l.length := by omega
        have hsz : i < listed.size := by rw [hI.size]; exact hil
        have hb : listed[i] = false := by
          cases hb : listed[i] with
          | false => rfl
          | true => rw [Array.getElem?_eq_getElem hsz, hb] at hne; exact absurd rfl hne
        have hgd : listed.getD i true = false := by simp [hsz, hb]
        refine ⟨i, hi, hgd, ?_⟩
        unfold Region.ready
        rw [List.mem_filter]
        refine ⟨by simpa using hil, ?_⟩
        simp only [hgd, Bool.not_false, Bool.true_and]
        have hli : l.toArray[i]? = some l[i] := by simp [hil]
        rw [hli]
        simp only [Option.map_some, Option.getD_some, Array.all_eq_true_iff_forall_mem]
        intro e he
        cases hbe : Region.binds .any e with
        | false => rfl
        | true =>
          have hlt := lexOk_edge hlex (List.getElem?_eq_getElem hil) he hbe
          have h5 : listed[e.on]? = some true := by
            by_cases h6 : listed[e.on]? = some true
            · exact h6
            · exact absurd ⟨by omega, h6⟩ (hleast e.on hlt)
          simp [Array.getD_eq_getD_getElem?, h5]
      refine ⟨fun h => absurd hready (by rw [h]; simp), fun i hi => ?_⟩
      have hin : i < n := by
        rcases Nat.lt_or_ge i n with h | h
        · exact h
        · exact absurd hi (tail_waits hsink hchain (by simpa using hnl) hH _ i0 rfl hi0 hu0 i h)
      have hiready := hi
      unfold Region.ready at hi
      rw [List.mem_filter] at hi
      obtain ⟨hir, hi2⟩ := hi
      have hil : i < l.length := by simpa using hir
      have hli : l.toArray[i]? = some l[i] := by simp [hil]
      rw [hli] at hi2
      simp only [Bool.and_eq_true, Bool.not_eq_true', Option.map_some, Option.getD_some, Array.all_eq_true_iff_forall_mem] at hi2
      obtain ⟨hnl', hdeps⟩ := hi2
      have hsz : i < listed.size := by rw [hI.size]; exact hil
      have hx : listed[i] = false := by simpa [Array.getD, hsz] using hnl'
      have hst := steps.get (i := i) (o := l[i]) (by rw [List.getElem?_take, if_pos hin, List.getElem?_eq_getElem hil])
      rw [Nat.zero_add] at hst
      have hfacts : ∀ j d, waitsFor l[i] j = true → dstOf l j = some d → ∃ v, a.tmps[d]? = some v ∧ a.tmps.getD d undef = v ∧ F j v W := by
        intro j d hw hd
        unfold waitsFor at hw
        rw [← Array.any_toList, List.any_eq_true] at hw
        obtain ⟨e, he, hbe⟩ := hw
        have he := Array.mem_toList_iff.1 he
        simp only [Bool.and_eq_true, beq_iff_eq] at hbe
        have h1 := hdeps e he
        rw [hbe.1, hbe.2] at h1
        have hj : listed[j]? = some true := by
          have h2 : listed.getD j false = true := by simpa using h1
          rw [Array.getD_eq_getD_getElem?] at h2
          cases hlj : listed[j]? with
          | none => rw [hlj] at h2; simp at h2
          | some b => rw [hlj] at h2; simpa using h2
        obtain ⟨v, hv, hF⟩ := hI.done j hj
        exact ⟨v, hv d hd, by rw [Array.getD_eq_getD_getElem?, hv d hd]; rfl, hF⟩
      have hkeep : ∀ t v, unwritten (l.take n) t = true → a0.tmps[t]? = some v → a.tmps[t]? = some v ∧ a.tmps.getD t undef = v := by
        intro t v ht h0
        suffices hs : a.tmps[t]? = some v by exact ⟨hs, by rw [Array.getD_eq_getD_getElem?, hs]; rfl⟩
        rw [← h0]
        refine hI.old t fun j hjl hj => ?_
        have hjs : j < listed.size := by
          rcases Nat.lt_or_ge j listed.size with h | h
          · exact h
          · rw [Array.getElem?_eq_none h] at hjl; cases hjl
        have hjn : j < n := by
          rcases Nat.lt_or_ge j n with h | h
          · exact h
          · have h3 := hH.tail j h (by rw [hI.size] at hjs; simpa using hjs)
            have h4 : listed[j] = false := by simpa [hjs] using h3
            rw [Array.getElem?_eq_getElem hjs, h4] at hjl
            simp at hjl
        unfold dstOf at hj
        cases hlj : l[j]? with
        | none => rw [hlj] at hj; simp at hj
        | some o =>
          rw [hlj] at hj
          have := List.all_eq_true.1 ht o (List.mem_of_getElem? (i := j) (by rw [List.getElem?_take, if_pos hjn, hlj]))
          have hj' : o.dst = some t := by simpa using hj
          rw [hj'] at this
          simp at this
      -- the state behind it
      have next : ∀ v W', R W W' → F i v W' → wpAny P .any l.toArray Q fuel (listed.setIfInBounds i true) (a.put l[i].dst v) W' := by
        intro v W' hR hF
        have hget : ∀ k, (listed.setIfInBounds i true)[k]? = some true → k = i ∨ listed[k]? = some true := by
          intro k hk
          rw [Array.getElem?_setIfInBounds] at hk
          by_cases hki : i = k
          · exact .inl hki.symm
          · rw [if_neg hki] at hk; exact .inr hk
        have hdi : dstOf l i = l[i].dst := by simp [dstOf, hil]
        have hput : ∀ t, l[i].dst ≠ some t → (a.put l[i].dst v).tmps[t]? = a.tmps[t]? := by
          intro t ht
          cases hd : l[i].dst with
          | none => rfl
          | some d =>
            have hne : d ≠ t := fun e => ht (by rw [hd, e])
            simp [Act.put, Array.getElem?_setIfInBounds_ne hne]
        refine ih _ _ _ ?_ (hH.set hiready hin) ⟨by simpa using hI.size, ?_, ?_, htrans _ _ _ hI.rel hR, ?_, ?_⟩
        · have hcnt : ∀ (L : List Bool) (k : Nat), L[k]? = some false → ((L.set k true).filter (· == false)).length + 1 = (L.filter (· == false)).length := by
            intro L
            induction L with
            | nil => intro k hk; simp at hk
            | cons b L ihL =>
              intro k hk
              cases k with
              | zero => simp at hk; subst hk; simp
              | succ k =>
                have := ihL k (by simpa using hk)
                cases b <;> simp at this ⊢ <;> omega
          have h1 := hcnt listed.toList i (by rw [Array.getElem?_toList, Array.getElem?_eq_getElem hsz, hx])
          rw [Array.toList_setIfInBounds]
          omega
        · rw [← hI.defers]; cases l[i].dst <;> rfl
        · rw [← hI.tsize]; cases l[i].dst <;> simp [Act.put]
        · intro t ht
          have h1 : l[i].dst ≠ some t := by
            rw [← hdi]
            exact ht i (by rw [Array.getElem?_setIfInBounds, if_pos rfl, if_pos hsz])
          rw [hput t h1]
          refine hI.old t fun j hj => ht j ?_
          rw [Array.getElem?_setIfInBounds]
          by_cases hij : i = j
          · rw [if_pos hij, if_pos hsz]
          · rw [if_neg hij]; exact hj
        · intro k hk
          by_cases hki : k = i
          · subst hki
            refine ⟨v, fun d hd => ?_, hF⟩
            have hdd : l[k].dst = some d := by rw [← hdi]; exact hd
            have hlt : d < a.tmps.size := by rw [hI.tsize]; exact lexOk_dst hlex hd
            rw [hdd]
            simp [Act.put, hlt]
          · rcases hget k hk with h | h
            · exact absurd h hki
            · obtain ⟨u, hu, hFu⟩ := hI.done k h
              refine ⟨u, fun d hd => ?_, hstab _ _ _ _ hFu hR⟩
              rw [hput d (fun e => hki (lexOk_apart hlex hd (by rw [hdi]; exact e)))]
              exact hu d hd
      unfold wpOp
      rw [hli]
      have h2 := hst a W hI.rel hkeep hfacts (wpAny P .any l.toArray Q fuel (listed.setIfInBounds i true)) next
      dsimp only
      split
      · rename_i hw; rw [if_pos hw] at h2; exact .inl h2
      · rename_i hw; rw [if_neg hw] at h2; exact h2

/-- A REGION THAT DRAWS ITS ORDER AND ENDS IN A CHAIN. -/
theorem region_tail {id : Nat} {w : World} (n : Nat) (hm : P.follows .mixedOrders = true) (htl : tailOk l n = true) (R : World → World → Prop) (rows : List (Row R))
    (hrefl : ∀ W, R W W) (htrans : ∀ W W' W'', R W W' → R W' W'' → R W W'') (hlex : lexOk l a0.tmps.size = true)
    (steps : RHSteps P l n Q R (rowAt rows) a0 w.drew 0 (l.take n))
    (fin : ∀ (vs : Nat → Value) W, R w.drew W → (∀ i, i < n → rowAt rows i (vs i) W) → wpList P l.toArray Q (l.drop n) { a0 with tmps := setAll vs 0 (l.take n) a0.tmps } W) : (Code.region id l.toArray true).wp P Q a0 w := by
  have hnl : n < l.length := by simp only [tailOk, Bool.and_eq_true, decide_eq_true_eq] at htl; exact htl.1.1.1
  refine wp_region_any hm ?_
  refine rg_tail (R := R) (F := rowAt rows) (a0 := a0) (w0 := w.drew) (n := n) htl htrans (fun i v W W' => (rows.getD i .any).h v W W') hlex steps ?_ _ _ _ _ ?_ ⟨by simp, fun j oj _ hl => absurd hl (by rw [getD_replicate_false]; decide), fun t _ ht => by
      simp at ht
      simp [ht]⟩ ⟨by simp, rfl, rfl, hrefl _, fun _ _ => rfl, ?_⟩
  · intro a W hI
    have hlisted : ∀ i, i < n → (headListed l.length n)[i]? = some true := fun i hi => by
      unfold headListed
      rw [Array.getElem?_append_left (by simpa using hi)]
      simp [hi]
    have hlisted2 : ∀ i, (headListed l.length n)[i]? = some true → i < n := fun i hi => by
      rcases Nat.lt_or_ge i n with h | h
      · exact h
      · unfold headListed at hi
        rw [Array.getElem?_append_right (by simpa using h), Array.getElem?_replicate] at hi
        split at hi <;> simp at hi
    have hch : ∀ i, ∃ v, i < n → (∀ d, dstOf l i = some d → a.tmps[d]? = some v) ∧ rowAt rows i v W := by
      intro i
      by_cases hi : i < n
      · obtain ⟨v, hv⟩ := hI.done i (hlisted i hi)
        exact ⟨v, fun _ => hv⟩
      · exact ⟨undef, fun h => absurd h hi⟩
    have hvs := fun i => (hch i).choose_spec
    have hdt : ∀ i d, dstOf (l.take n) i = some d → i < n ∧ dstOf l i = some d := fun i d hd => by
      unfold dstOf at hd ⊢
      rw [List.getElem?_take] at hd
      by_cases hi : i < n
      · rw [if_pos hi] at hd; exact ⟨hi, hd⟩
      · rw [if_neg hi] at hd; simp at hd
    have he : a = { a0 with tmps := setAll (fun i => (hch i).choose) 0 (l.take n) a0.tmps } := by
      have ht : a.tmps = setAll (fun i => (hch i).choose) 0 (l.take n) a0.tmps := by
        apply Array.ext_getElem?
        intro t
        by_cases hw : ∃ i, dstOf (l.take n) i = some t
        · obtain ⟨i, hi⟩ := hw
          obtain ⟨hin, hil⟩ := hdt i t hi
          rw [setAll_at _ (l.take n) 0 a0.tmps i t (lexOk_dst hlex hil) hi (fun j hj => lexOk_apart hlex (hdt j t hj).2 hil), Nat.zero_add]
          exact (hvs i hin).1 t hil
        · rw [setAll_other]
          · exact hI.old t fun i hi hd => hw ⟨i, by
              have hin := hlisted2 i hi
              unfold dstOf at hd ⊢
              rw [List.getElem?_take, if_pos hin]; exact hd⟩
          · intro o ho hd
            obtain ⟨j, hj⟩ := List.getElem?_of_mem ho
            exact hw ⟨j, by simp [dstOf, hj, hd]⟩
      obtain ⟨tm, df⟩ := a
      have hd := hI.defers
      simp only at ht hd
      show Act.mk tm df = Act.mk _ _
      rw [← ht, hd]
    rw [he]
    exact fin _ W hI.rel fun i hi => (hvs i hi).2
  · simp
  · intro i hi
    rw [Array.getElem?_replicate] at hi
    split at hi <;> simp at hi
end
end Go.Rb
namespace Go.Proofs.Ytjfkppbfckgckaa
set_option maxRecDepth 20000
open Go.RowKit Go.Rb
attribute [local irreducible] Go.wpQuiet

theorem step_append_e {P : Program} {w : World} {ops : Array Oper} {o : Oper} {a : Act} {K : Act → World → Prop} {Q : Exit → Act → World → Prop} {E : Prop} (hgd : o.guard = none) (s x : Operand) (t : TypeId)
    (ho : o.op = .call { callee := .builtin .append, args := #[s, x], argTypes := #[t, t] })
    (e : TypeId) (i : TypeInfo) (z : Value) (sz bytes : Nat) (ht : P.underlying t = some (.slice e)) (hi : P.info? e = some i) (hz : i.zero = some z)
    (hsize : i.size = sz) (hby : i.bytes = bytes) (hzs : z.cells.size = sz) (hsz : 0 < sz)
    (g : Nat) (hs : a.eval s = .slice (some ⟨g, 0, none⟩) 0 0) (hown : Blk w g e #[])
    (B : Nat) (A : Option Addr) (m c : Nat) (news : List Value) (hx : a.eval x = .slice A m c) (hr : Rd w B sz A m news) (h1 : ∀ u ∈ news, u.oneCell' = true)
    (h63 : m ≤ maxLen) (hbytes : m * bytes ≤ 140737488355328)
    (h : ∀ g' o' c' w', Own w' e sz (.slice (some ⟨g', o', none⟩) m c') m news → Below w.heap.size w w' → (g' = g ∨ g' = w.heap.size) → (m = 0 → Blk w' g' e #[]) → K (a.put o.dst (.slice (some ⟨g', o', none⟩) m c')) w') :
    if Region.wanted o (yielded ops a.tmps) = true then Oper.wp P o a w K Q else E := by
  have hw : Region.wanted o (yielded ops a.tmps) = true := by simp [Region.wanted, hgd]
  rw [if_pos hw]
  obtain ⟨g', o', c', w', hrun, h2, h3, h4, h5⟩ := run_append_e (P := P) w t o.type e i z sz bytes ht hi hz hsize hby hzs hsz g hown B A m c news hr h1 h63 hbytes
  unfold Oper.wp execOp
  simp only [ho, resolve, invoke, builtin, Sem.run_bind, Sem.run_pure, Result.andThen_ok, List.map_toArray, List.map_cons, List.map_nil, hs, hx, hrun]
  exact h g' o' c' w' h2 h3 h4 h5

def emptyRow (B : Nat) : Row (fun W W' => Below W.heap.size W W') := ⟨fun v W => ∃ g, v = .slice (some ⟨g, 0, none⟩) 0 0 ∧ B ≤ g ∧ Blk W g 52 #[], fun _ _ _ ⟨g, e, hb, h⟩ hR => ⟨g, e, hb, h.below hR h.lt⟩⟩
theorem emptyRow_mk {B : Nat} (W : World) (h : B ≤ W.heap.size) : (emptyRow B).p (.slice (some ⟨W.heap.size, 0, none⟩) 0 0) (W.alloc (.cells #[] 52)) := ⟨_, rfl, h, Blk.new _ _ _⟩
def midRow (B m : Nat) (xs : List Value) : Row (fun W W' => Below W.heap.size W W') := ⟨fun v W => ∃ g o c, v = .slice (some ⟨g, o, none⟩) m c ∧ B ≤ g ∧ Own W 52 5 (.slice (some ⟨g, o, none⟩) m c) m xs ∧ (m = 0 → Blk W g 52 #[]),
  fun _ _ _ ⟨g, o, c, e, hb, h, h0⟩ hR => ⟨g, o, c, e, hb, h.below hR fun k hk => h.lt hk, fun hm => (h0 hm).below hR (h0 hm).lt⟩⟩
def kidRow (B : Nat) (kc : Array Value) : Row (fun W W' => Below W.heap.size W W') := ⟨fun v W => ∃ g, v = .slice (some ⟨g, 0, none⟩) 1 1 ∧ B ≤ g ∧ Blk W g 52 kc, fun _ _ _ ⟨g, e, hb, h⟩ hR => ⟨g, e, hb, h.below hR h.lt⟩⟩
theorem kidRow_mk {B : Nat} (kc : Array Value) (W : World) (h : B ≤ W.heap.size) : (kidRow B kc).p (.slice (some ⟨W.heap.size, 0, none⟩) 1 1) (W.alloc (.cells kc 52)) := ⟨_, rfl, h, Blk.new _ _ _⟩
def cntRow (B : Nat) (mn mx : Int) (kc : Array Value) : Row (fun W W' => Below W.heap.size W W') := ⟨fun v W => ∃ g, v = ndV 6 (.slice none 0 0) mn mx (.slice (some ⟨g, 0, none⟩) 1 1) ∧ B ≤ g ∧ Blk W g 52 kc, fun _ _ _ ⟨g, e, hb, h⟩ hR => ⟨g, e, hb, h.below hR h.lt⟩⟩
def newRow (B : Nat) (mn mx : Int) (kc : Array Value) : Row (fun W W' => Below W.heap.size W W') := ⟨fun v W => ∃ h g, v = .slice (some ⟨h, 0, none⟩) 1 1 ∧ Blk W h 52 #[.int .i64 6, .slice none 0 0, .int .i64 mn, .int .i64 mx, .slice (some ⟨g, 0, none⟩) 1 1] ∧ B ≤ g ∧ Blk W g 52 kc,
  fun _ _ _ ⟨h, g, e, hh, hb, hg⟩ hR => ⟨h, g, e, hh.below hR hh.lt, hb, hg.below hR hg.lt⟩⟩
theorem newRow_mk {B g : Nat} {mn mx : Int} (kc : Array Value) (W : World) (hb : B ≤ g) (hg : Blk W g 52 kc) : (newRow B mn mx kc).p (.slice (some ⟨W.heap.size, 0, none⟩) 1 1) (W.alloc (.cells #[.int .i64 6, .slice none 0 0, .int .i64 mn, .int .i64 mx, .slice (some ⟨g, 0, none⟩) 1 1] 52)) := ⟨_, g, rfl, Blk.new _ _ _, hb, hg.alloc _⟩

theorem ps_parts {ps : List Value} {m : Nat} {kv : Value} (hl : ps.length = m + 1) (hlen : (ps.flatMap cellsV).length = (m + 1) * 5) (hk : ps.getD m undef = kv) (hc : (cellsV kv).length = 5) :
    ps.flatMap cellsV = (ps.take m).flatMap cellsV ++ cellsV kv ∧ ((ps.take m).flatMap cellsV).length = m * 5 := by
  have e : ps = ps.take m ++ [kv] := by
    have h1 : ps.drop m = [kv] := by
      rw [List.drop_eq_getElem_cons (by omega), List.drop_eq_nil_of_le (by omega)]
      rw [List.getD, List.getElem?_eq_getElem (by omega)] at hk
      simpa using hk
    rw [← h1, List.take_append_drop]
  have h2 : ps.flatMap cellsV = (ps.take m).flatMap cellsV ++ cellsV kv := by
    have := congrArg (fun l => List.flatMap cellsV l) e
    simpa using this
  refine ⟨h2, ?_⟩
  have h3 := congrArg List.length h2
  rw [List.length_append, hlen, hc] at h3
  omega
theorem count_far {W w5 : World} {g1 o1 c1 m q g5 o5 c5 : Nat} {YS : List Value} {KC : Array Value} (hE1 : m = 0 → Blk W g1 52 #[]) (hbq : Blk W q 52 KC) (hKC : KC.size = 5)
    (hown5 : Own w5 52 5 (.slice (some ⟨g5, o5, none⟩) (m + 1) c5) (m + 1) YS) (hgrow5 : W.grownBy w5 (Value.slice (some ⟨g1, o1, none⟩) m c1).ownBlock) (hat5 : (Value.slice (some ⟨g1, o1, none⟩) m c1).ownBlock = some g5 ∨ g5 = W.heap.size)
    (hkeep5 : ∀ k cs, Blk W k 52 cs → cs.size < (m + 1) * 5 → Blk w5 k 52 cs) : q ≠ g5 ∧ Blk w5 q 52 KC := by
  have h0 : m = 0 → q ≠ g1 := by
    rintro hm rfl
    have h := hE1 hm
    unfold Blk at h hbq
    rw [hbq] at h
    simp only [Option.some.injEq, Obj.cells.injEq] at h
    have := h.1
    subst this
    simp at hKC
  have hq5 : Blk w5 q 52 KC := by
    by_cases hm : m = 0
    · exact (hgrow5.block q hbq.lt (by simpa [Value.ownBlock] using h0 hm)).trans hbq
    · exact hkeep5 q KC hbq (by omega)
  refine ⟨?_, hq5⟩
  rintro rfl
  rcases hown5.2 with ⟨h, _⟩ | ⟨g', off, cap, cur, e, hg, hnc, hcm, hsz, _⟩
  · simp at h
  · simp only [Value.slice.injEq, Option.some.injEq, Addr.mk.injEq, true_and, and_true] at e
    obtain ⟨⟨rfl, rfl⟩, rfl⟩ := e
    unfold Blk at hq5
    rw [hq5] at hg
    simp only [Option.some.injEq, Obj.cells.injEq, true_and, and_true] at hg
    subst hg
    have hm : m = 0 := by omega
    rcases hat5 with h | h
    · exact h0 hm (by simpa [Value.ownBlock] using h.symm)
    · have := hbq.lt
      omega
theorem TI.count {w wr w3 : World} {av pv kv : Value} {alts pieces : List Nd} {ps : List Value} {m g o cc q : Nat} {kid : Nd} {mn mx : Int} {KC : Array Value} (h : TI w wr av pv alts pieces) (hb : Below wr.heap.size wr w3) (hm : pieces.length = m + 1) (hkid : pieces[m]? = some kid)
    (hl : ps.length = pieces.length) (hv : ∀ (i : Nat) (x : Nd), pieces[i]? = some x → NdV wr (SS w.heap.size av pv) (ps.getD i undef) x)
    (hO : Own w3 52 5 (.slice (some ⟨g, o, none⟩) (m + 1) cc) (m + 1) ((ps.take m).flatMap cellsV ++ [.int .i64 6, .slice none 0 0, .int .i64 mn, .int .i64 mx, .slice (some ⟨q, 0, none⟩) 1 1]))
    (hg : wr.heap.size ≤ g) (hq : wr.heap.size ≤ q) (hne : q ≠ g) (hbk : Blk w3 q 52 KC) (hkv : ps.getD m undef = kv) (hkc : cellsV kv = KC.toList) (hk5 : KC.size = 5) :
    TI w w3 av (.slice (some ⟨g, o, none⟩) (m + 1) cc) alts (pieces.dropLast ++ [.mk 6 [] mn mx [kid]]) := by
  have hsz := hb.size
  have hlt := h.blk.lt
  have hss : ∀ k, SS w.heap.size av pv k ∧ k < wr.heap.size → SS w.heap.size av (.slice (some ⟨g, o, none⟩) (m + 1) cc) k := fun k hk => ⟨hk.1.1, hk.1.2.1, fun e => by
    have : g = k := by simpa [Value.ownBlock] using e
    omega⟩
  have key : ∀ (v : Value) (x : Nd), NdV wr (SS w.heap.size av pv) v x → NdV w3 (SS w.heap.size av (.slice (some ⟨g, o, none⟩) (m + 1) cc)) v x := fun v x hx =>
    ((hx.mono (T := fun k => SS w.heap.size av pv k ∧ k < wr.heap.size) fun k hk hlt => ⟨hk, hlt⟩).under hb).mono fun k hk _ => hss k hk
  obtain ⟨bs, a1, a2, a3⟩ := h.a
  have hlen : pieces.dropLast.length = m := by simp [hm]
  refine ⟨⟨bs, a1, a2.below hb fun k hk => a2.lt hk, fun i n hi => key _ _ (a3 i n hi)⟩, ?_, h.ab, ?_, ?_, h.blk.below hb hlt, h.below.trans (hb.mono h.below.size)⟩
  · refine nds_push (vs := ps.take m) (x := ndV 6 (.slice none 0 0) mn mx (.slice (some ⟨q, 0, none⟩) 1 1)) (by rw [List.length_take, hlen]; omega) (by rw [hlen]; exact hO) (fun i x hi => ?_) ?_
    · have him : i < m := by have := (List.getElem?_eq_some_iff.1 hi).1; omega
      have e : (ps.take m).getD i undef = ps.getD i undef := by
        rw [List.getD, List.getD, List.getElem?_take_of_lt him]
      rw [e]
      refine key _ _ (hv i x ?_)
      rw [List.dropLast_eq_take, List.getElem?_take_of_lt (by omega)] at hi
      exact hi
    · refine .mk 6 mn mx [] [kid] _ _ [kv] (SetV.nil_ _) rfl ?_ (fun k hk => ?_) (fun i hi => ?_)
      · refine ⟨by simp [hkc, hk5], .inr ⟨q, 0, 1, KC, rfl, hbk, Nat.le_refl _, by simp [maxLen], by omega, ?_⟩⟩
        simp only [List.flatMap_cons, List.flatMap_nil, List.append_nil, List.drop_zero, hkc]
        rw [List.take_of_length_le (by simp [hk5])]
      · have : q = k := by simpa [Value.ownBlock] using hk
        subst this
        refine ⟨by omega, fun e => ?_, fun e => hne (by simpa [Value.ownBlock] using e.symm)⟩
        have := a2.lt e
        omega
      · obtain rfl : i = 0 := by simp at hi; omega
        have := hv m kid hkid
        rw [hkv] at this
        exact key _ _ this
  · intro k hk
    have : g = k := by simpa [Value.ownBlock] using hk
    omega
  · intro k hk e
    have : g = k := by simpa [Value.ownBlock] using e
    have := a2.lt hk
    omega
end Go.Proofs.Ytjfkppbfckgckaa
