/-
  A count behind a piece: the rows of the region that makes it, and the state behind it; no condition beyond those that each theorem states.
-/
import Derived.Test.YtgfienopijlnkaaGrow
import Derived.Test.YtgfienopijlnkaaRegion4
import Derived.Test.YtgfienopijlnkaaPar13
namespace Go.Proofs.Ytgfienopijlnkaa
open Go.RowKit Go.Rb
attribute [local irreducible] Go.wpQuiet

theorem step_append_e {P : Program} {w : World} {ops : Array Oper} {o : Oper} {a : Act} {K : Act → World → Prop} {Q : Exit → Act → World → Prop} {E : Prop} (hgd : o.guard = none) (s x : Operand) (t : TypeId)
    (ho : o.op = .call { callee := .builtin .append, args := #[s, x], argTypes := #[t, t] })
    (e : TypeId) (i : TypeInfo) (z : Value) (sz bytes : Nat) (ht : P.underlying t = some (.slice e)) (hi : P.info? e = some i) (hz : i.zero = some z)
    (hsize : i.size = sz) (hby : i.bytes = bytes) (hzs : z.cells.size = sz) (hsz : 0 < sz)
    (g : Nat) (hs : a.eval s = .slice (some ⟨g, 0, none⟩) 0 0) (hown : Blk w g e #[])
    (B : Nat) (A : Option Addr) (m c : Nat) (news : List Value) (hx : a.eval x = .slice A m c) (hr : Rd w B sz A m news) (h1 : ∀ u ∈ news, u.oneCell' = true)
    (h63 : m ≤ maxLen) (hbytes : m * bytes ≤ 140737488355328)
    (h : ∀ g' o' c' w', Own w' e sz (.slice (some ⟨g', o', none⟩) m c') m news → Below w.heap.size w w' → (g' = g ∨ g' = w.heap.size) → (m = 0 → Blk w' g' e #[]) → K (a.put o.dst (.slice (some ⟨g', o', none⟩) m c')) w') :
    if Region.wanted o (yielded ops a.tmps) = true then Oper.wp P o a w K Q else E := by
  have hw : Region.wanted o (yielded ops a.tmps) = true := by simp [Region.wanted, hgd]
  rw [if_pos hw]
  obtain ⟨g', o', c', w', hrun, h2, h3, h4, h5⟩ := run_append_e (P := P) w t o.type e i z sz bytes ht hi hz hsize hby hzs hsz g hown B A m c news hr h1 h63 hbytes
  unfold Oper.wp execOp
  simp only [ho, resolve, invoke, builtin, Sem.run_bind, Sem.run_pure, Result.andThen_ok, List.map_toArray, List.map_cons, List.map_nil, hs, hx, hrun]
  exact h g' o' c' w' h2 h3 h4 h5

def emptyRow (B : Nat) : Row (fun W W' => Below W.heap.size W W') := ⟨fun v W => ∃ g, v = .slice (some ⟨g, 0, none⟩) 0 0 ∧ B ≤ g ∧ Blk W g 28 #[], fun _ _ _ ⟨g, e, hb, h⟩ hR => ⟨g, e, hb, h.below hR h.lt⟩⟩
theorem emptyRow_mk {B : Nat} (W : World) (h : B ≤ W.heap.size) : (emptyRow B).p (.slice (some ⟨W.heap.size, 0, none⟩) 0 0) (W.alloc (.cells #[] 28)) := ⟨_, rfl, h, Blk.new _ _ _⟩
def midRow (B m : Nat) (xs : List Value) : Row (fun W W' => Below W.heap.size W W') := ⟨fun v W => ∃ g o c, v = .slice (some ⟨g, o, none⟩) m c ∧ B ≤ g ∧ Own W 28 5 (.slice (some ⟨g, o, none⟩) m c) m xs ∧ (m = 0 → Blk W g 28 #[]),
  fun _ _ _ ⟨g, o, c, e, hb, h, h0⟩ hR => ⟨g, o, c, e, hb, h.below hR fun k hk => h.lt hk, fun hm => (h0 hm).below hR (h0 hm).lt⟩⟩
def kidRow (B : Nat) (kc : Array Value) : Row (fun W W' => Below W.heap.size W W') := ⟨fun v W => ∃ g, v = .slice (some ⟨g, 0, none⟩) 1 1 ∧ B ≤ g ∧ Blk W g 28 kc, fun _ _ _ ⟨g, e, hb, h⟩ hR => ⟨g, e, hb, h.below hR h.lt⟩⟩
theorem kidRow_mk {B : Nat} (kc : Array Value) (W : World) (h : B ≤ W.heap.size) : (kidRow B kc).p (.slice (some ⟨W.heap.size, 0, none⟩) 1 1) (W.alloc (.cells kc 28)) := ⟨_, rfl, h, Blk.new _ _ _⟩
def cntRow (B : Nat) (mn mx : Int) (kc : Array Value) : Row (fun W W' => Below W.heap.size W W') := ⟨fun v W => ∃ g, v = ndV 6 (.slice none 0 0) mn mx (.slice (some ⟨g, 0, none⟩) 1 1) ∧ B ≤ g ∧ Blk W g 28 kc, fun _ _ _ ⟨g, e, hb, h⟩ hR => ⟨g, e, hb, h.below hR h.lt⟩⟩
def newRow (B : Nat) (mn mx : Int) (kc : Array Value) : Row (fun W W' => Below W.heap.size W W') := ⟨fun v W => ∃ h g, v = .slice (some ⟨h, 0, none⟩) 1 1 ∧ Blk W h 28 #[.int .i64 6, .slice none 0 0, .int .i64 mn, .int .i64 mx, .slice (some ⟨g, 0, none⟩) 1 1] ∧ B ≤ g ∧ Blk W g 28 kc,
  fun _ _ _ ⟨h, g, e, hh, hb, hg⟩ hR => ⟨h, g, e, hh.below hR hh.lt, hb, hg.below hR hg.lt⟩⟩
theorem newRow_mk {B g : Nat} {mn mx : Int} (kc : Array Value) (W : World) (hb : B ≤ g) (hg : Blk W g 28 kc) : (newRow B mn mx kc).p (.slice (some ⟨W.heap.size, 0, none⟩) 1 1) (W.alloc (.cells #[.int .i64 6, .slice none 0 0, .int .i64 mn, .int .i64 mx, .slice (some ⟨g, 0, none⟩) 1 1] 28)) := ⟨_, g, rfl, Blk.new _ _ _, hb, hg.alloc _⟩

theorem ps_parts {ps : List Value} {m : Nat} {kv : Value} (hl : ps.length = m + 1) (hlen : (ps.flatMap cellsV).length = (m + 1) * 5) (hk : ps.getD m undef = kv) (hc : (cellsV kv).length = 5) :
    ps.flatMap cellsV = (ps.take m).flatMap cellsV ++ cellsV kv ∧ ((ps.take m).flatMap cellsV).length = m * 5 := by
  have e : ps = ps.take m ++ [kv] := by
    have h1 : ps.drop m = [kv] := by
      rw [List.drop_eq_getElem_cons (by omega), List.drop_eq_nil_of_le (by omega)]
      rw [List.getD, List.getElem?_eq_getElem (by omega)] at hk
      simpa using hk
    rw [← h1, List.take_append_drop]
  have h2 : ps.flatMap cellsV = (ps.take m).flatMap cellsV ++ cellsV kv := by
    have := congrArg (fun l => List.flatMap cellsV l) e
    simpa using this
  refine ⟨h2, ?_⟩
  have h3 := congrArg List.length h2
  rw [List.length_append, hlen, hc] at h3
  omega
theorem count_far {W w5 : World} {g1 o1 c1 m q g5 o5 c5 : Nat} {YS : List Value} {KC : Array Value} (hE1 : m = 0 → Blk W g1 28 #[]) (hbq : Blk W q 28 KC) (hKC : KC.size = 5)
    (hown5 : Own w5 28 5 (.slice (some ⟨g5, o5, none⟩) (m + 1) c5) (m + 1) YS) (hgrow5 : W.grownBy w5 (Value.slice (some ⟨g1, o1, none⟩) m c1).ownBlock) (hat5 : (Value.slice (some ⟨g1, o1, none⟩) m c1).ownBlock = some g5 ∨ g5 = W.heap.size)
    (hkeep5 : ∀ k cs, Blk W k 28 cs → cs.size < (m + 1) * 5 → Blk w5 k 28 cs) : q ≠ g5 ∧ Blk w5 q 28 KC := by
  have h0 : m = 0 → q ≠ g1 := by
    rintro hm rfl
    have h := hE1 hm
    unfold Blk at h hbq
    rw [hbq] at h
    simp only [Option.some.injEq, Obj.cells.injEq] at h
    have := h.1
    subst this
    simp at hKC
  have hq5 : Blk w5 q 28 KC := by
    by_cases hm : m = 0
    · exact (hgrow5.block q hbq.lt (by simpa [Value.ownBlock] using h0 hm)).trans hbq
    · exact hkeep5 q KC hbq (by omega)
  refine ⟨?_, hq5⟩
  rintro rfl
  rcases hown5.2 with ⟨h, _⟩ | ⟨g', off, cap, cur, e, hg, hnc, hcm, hsz, _⟩
  · simp at h
  · simp only [Value.slice.injEq, Option.some.injEq, Addr.mk.injEq, true_and, and_true] at e
    obtain ⟨⟨rfl, rfl⟩, rfl⟩ := e
    unfold Blk at hq5
    rw [hq5] at hg
    simp only [Option.some.injEq, Obj.cells.injEq, true_and, and_true] at hg
    subst hg
    have hm : m = 0 := by omega
    rcases hat5 with h | h
    · exact h0 hm (by simpa [Value.ownBlock] using h.symm)
    · have := hbq.lt
      omega
theorem TI.count {w wr w3 : World} {av pv kv : Value} {alts pieces : List Nd} {ps : List Value} {m g o cc q : Nat} {kid : Nd} {mn mx : Int} {KC : Array Value} (h : TI w wr av pv alts pieces) (hb : Below wr.heap.size wr w3) (hm : pieces.length = m + 1) (hkid : pieces[m]? = some kid)
    (hl : ps.length = pieces.length) (hv : ∀ (i : Nat) (x : Nd), pieces[i]? = some x → NdV wr (SS w.heap.size av pv) (ps.getD i undef) x)
    (hO : Own w3 28 5 (.slice (some ⟨g, o, none⟩) (m + 1) cc) (m + 1) ((ps.take m).flatMap cellsV ++ [.int .i64 6, .slice none 0 0, .int .i64 mn, .int .i64 mx, .slice (some ⟨q, 0, none⟩) 1 1]))
    (hg : wr.heap.size ≤ g) (hq : wr.heap.size ≤ q) (hne : q ≠ g) (hbk : Blk w3 q 28 KC) (hkv : ps.getD m undef = kv) (hkc : cellsV kv = KC.toList) (hk5 : KC.size = 5) :
    TI w w3 av (.slice (some ⟨g, o, none⟩) (m + 1) cc) alts (pieces.dropLast ++ [.mk 6 [] mn mx [kid]]) := by
  have hsz := hb.size
  have hlt := h.blk.lt
  have hss : ∀ k, SS w.heap.size av pv k ∧ k < wr.heap.size → SS w.heap.size av (.slice (some ⟨g, o, none⟩) (m + 1) cc) k := fun k hk => ⟨hk.1.1, hk.1.2.1, fun e => by
    have : g = k := by simpa [Value.ownBlock] using e
    omega⟩
  have key : ∀ (v : Value) (x : Nd), NdV wr (SS w.heap.size av pv) v x → NdV w3 (SS w.heap.size av (.slice (some ⟨g, o, none⟩) (m + 1) cc)) v x := fun v x hx =>
    ((hx.mono (T := fun k => SS w.heap.size av pv k ∧ k < wr.heap.size) fun k hk hlt => ⟨hk, hlt⟩).under hb).mono fun k hk _ => hss k hk
  obtain ⟨bs, a1, a2, a3⟩ := h.a
  have hlen : pieces.dropLast.length = m := by simp [hm]
  refine ⟨⟨bs, a1, a2.below hb fun k hk => a2.lt hk, fun i n hi => key _ _ (a3 i n hi)⟩, ?_, h.ab, ?_, ?_, h.blk.below hb hlt, h.below.trans (hb.mono h.below.size)⟩
  · refine nds_push (vs := ps.take m) (x := ndV 6 (.slice none 0 0) mn mx (.slice (some ⟨q, 0, none⟩) 1 1)) (by rw [List.length_take, hlen]; omega) (by rw [hlen]; exact hO) (fun i x hi => ?_) ?_
    · have him : i < m := by have := (List.getElem?_eq_some_iff.1 hi).1; omega
      have e : (ps.take m).getD i undef = ps.getD i undef := by
        rw [List.getD, List.getD, List.getElem?_take_of_lt him]
      rw [e]
      refine key _ _ (hv i x ?_)
      rw [List.dropLast_eq_take, List.getElem?_take_of_lt (by omega)] at hi
      exact hi
    · refine .mk 6 mn mx [] [kid] _ _ [kv] (SetV.nil_ _) rfl ?_ (fun k hk => ?_) (fun i hi => ?_)
      · refine ⟨by simp [hkc, hk5], .inr ⟨q, 0, 1, KC, rfl, hbk, Nat.le_refl _, by simp [maxLen], by omega, ?_⟩⟩
        simp only [List.flatMap_cons, List.flatMap_nil, List.append_nil, List.drop_zero, hkc]
        rw [List.take_of_length_le (by simp [hk5])]
      · have : q = k := by simpa [Value.ownBlock] using hk
        subst this
        refine ⟨by omega, fun e => ?_, fun e => hne (by simpa [Value.ownBlock] using e.symm)⟩
        have := a2.lt e
        omega
      · obtain rfl : i = 0 := by simp at hi; omega
        have := hv m kid hkid
        rw [hkv] at this
        exact key _ _ this
  · intro k hk
    have : g = k := by simpa [Value.ownBlock] using hk
    omega
  · intro k hk e
    have : g = k := by simpa [Value.ownBlock] using e
    have := a2.lt hk
    omega
end Go.Proofs.Ytgfienopijlnkaa
