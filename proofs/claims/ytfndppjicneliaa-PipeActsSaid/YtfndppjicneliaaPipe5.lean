/-
  The contract of the pipe's function Take; no condition beyond those that each theorem states.
-/
import Derived.Test.YtfndppjicneliaaPipe4
namespace Go.Proofs.Ytfndppjicneliaa
open Go.RowKit Go.Rb
attribute [local irreducible] Go.wpQuiet

theorem step_fn {P : Program} {ops : Array Oper} {o : Oper} {a : Act} {w : World} {K : Act → World → Prop} {Q : Exit → Act → World → Prop} {E : Prop} (hg : o.guard = none) (x : Operand) (f : FuncId) (ts : Array TypeId)
    (ho : o.op = .call { callee := .value (.func f), args := #[x], argTypes := ts }) (hcf : ∀ args w, (callFunc f args).run P w = .ok (.enter f args) w) (R : Ending → World → Prop) (hc : Calls P f #[a.eval x] w R) (hR : ∀ e w', R e w' → ∃ v, e = .returned v ∧ K (a.put o.dst v) w') :
    if Region.wanted o (yielded ops a.tmps) = true then Oper.wp P o a w K Q else E := by
  have hw : Region.wanted o (yielded ops a.tmps) = true := by simp [Region.wanted, hg]
  rw [if_pos hw]
  have he : (execOp a.eval o).run P w = .ok (.enter f #[a.eval x]) w := by
    obtain ⟨d, op, ty, pos, af, gd⟩ := o
    simp only at ho
    subst ho
    show (callFunc f (#[] ++ #[x].map a.eval ++ #[])).run P w = _
    rw [hcf]
    simp
  unfold Oper.wp
  rw [he]
  refine hc.mono fun e w' h => ?_
  obtain ⟨v, rfl, hk⟩ := hR e w' h
  exact hk
theorem enter_first : ∀ args w, (callFunc 24 args).run Try.prog w = .ok (.enter 24 args) w := by
  intro args w
  simp [callFunc, go_sem, Try.func24]
  rfl
theorem tail_in {w : World} {S : Nat → Prop} {p : Nat} {iv ov : Value} {s : PS} {x : It} {t : List It} (h : RepA w S p iv ov s) (hi : s.inn = x :: t) :
    ∃ g off cap, iv = .slice (some ⟨g, off, none⟩) (t.length + 1) cap ∧ t.length + 1 ≤ cap ∧ S g ∧ Own w 34 7 (.slice (some (if cap = 1 then ⟨g, off, none⟩ else ⟨g, off + 7, none⟩)) t.length (cap - 1)) t.length (ics t) ∧ ∀ j, j < 7 → w.cell? ⟨g, off + j, none⟩ = (It.cs x)[j]? := by
  have h0 : 0 < s.inn.length := by rw [hi]; simp
  obtain ⟨g, off, cap, rfl, hcap, hg, kk⟩ := h.iat h0
  have hl : s.inn.length = t.length + 1 := by rw [hi]; rfl
  have ht := h.io.tail_ 1 (by omega)
  rw [hl] at ht hcap
  have e1 : (ics s.inn).drop (1 * 7) = ics t := by rw [hi]; rfl
  rw [e1, Nat.add_sub_cancel, Nat.one_mul] at ht
  refine ⟨g, off, cap, by rw [hl], hcap, h.si g rfl, ht, fun j hj => ?_⟩
  have := kk j hj
  simp only [hi, List.getElem_cons_zero, Nat.zero_mul, Nat.add_zero] at this
  exact this
def takeX (s : PS) : It := match s.inn with | x :: _ => x | [] => match s.ofs with | o :: _ => o.2 | [] => It0
def takeE (s : PS) : Int := match s.inn with | _ :: _ => 0 | [] => match s.ofs with | _ :: _ => 0 | [] => if s.cl then 17 else 19
def takeS (s : PS) : PS := match s.inn with
  | _ :: t => (match s.ofs with | o :: u => { s with inn := t ++ [o.2], ofs := u } | [] => { s with inn := t })
  | [] => match s.ofs with | _ :: u => { s with ofs := u } | [] => s

set_option maxHeartbeats 4000000 in
theorem take_in {S : Nat → Prop} {p : Nat} {s : PS} {iv ov : Value} (x : It) (t : List It) (w : World) (h : RepA w S p iv ov s) (hi : s.inn = x :: t) (ho : s.ofs = []) :
    Calls Try.prog 10 #[pp p] w fun e w' => e = .returned (.tuple #[x.v, .int .i64 0]) ∧ Went w S p { s with inn := t } w' := by
  obtain ⟨g, off, cap, rfl, hcap, hsg, htl, kk⟩ := tail_in h hi
  obtain ⟨xn, xb, xrn, xra, xrt, xha, xhn, xhc, xe⟩ := x
  have c1 := h.c1
  have c2 := h.c2
  have f1 := h.fp 1
  have hpl := h.lt _ h.sp
  have hgl := h.lt _ hsg
  obtain ⟨A2, cp2, rfl, -, -⟩ := h.oo.len_
  have ho0 : s.ofs.length = 0 := by rw [ho]; rfl
  rw [ho0] at c2
  have key : Hid (∀ v', Own w 34 7 v' t.length (ics t) → (∀ k, v'.ownBlock = some k → S k) → ∀ b1 b2, Went w S p { s with inn := t } (((w.setCell ⟨p, 1, none⟩ v').alloc b1).alloc b2)) := by
    intro v' hv hs b1 b2
    have h1 := h.setIn v' t hv hs
    have h2 := h1.below ((Below.refl _ _).alloc (Nat.le_refl _) b1)
    have h3 := h2.below ((Below.refl _ _).alloc (Nat.le_refl _) b2)
    exact Went.of ((((Only.refl S w).setCell (p := ⟨p, 1, none⟩) (fun _ => h.sp) _).alloc _).alloc _) h3
  have k0 := kk 0 (by omega); have k1 := kk 1 (by omega); have k2 := kk 2 (by omega); have k3 := kk 3 (by omega); have k4 := kk 4 (by omega); have k5 := kk 5 (by omega); have k6 := kk 6 (by omega)
  simp only [It.cs, List.getElem?_cons_zero, List.getElem?_cons_succ, Nat.add_zero] at k0 k1 k2 k3 k4 k5 k6
  have HT := Lib.hid htl
  have HSG := Lib.hid hsg
  have hn0 : (0 : Int) < (t.length : Int) + 1 := by omega
  clear h kk hi ho htl hsg ho0
  unfold It.v
  unfold pp
  go_enter Try.func10, Try.ntmps10
  go_wp2_with fail
  · go_returns
    refine ⟨rfl, key.out _ ?_ ?_ _ _⟩
    · have := HT.out; rw [if_pos h, h] at this; exact this
    · intro k hk; simp [Value.ownBlock] at hk; rw [← hk]; exact HSG.out
  · go_returns
    refine ⟨rfl, key.out _ ?_ ?_ _ _⟩
    · have := HT.out; rw [if_neg h] at this; exact this
    · intro k hk; simp [Value.ownBlock] at hk; rw [← hk]; exact HSG.out

set_option maxHeartbeats 4000000 in
theorem take_none {S : Nat → Prop} {p : Nat} {s : PS} {iv ov : Value} (w : World) (h : RepA w S p iv ov s) (hi : s.inn = []) (ho : s.ofs = []) :
    Calls Try.prog 10 #[pp p] w fun e w' => e = .returned (.tuple #[It0.v, .int .i64 (if s.cl then 17 else 19)]) ∧ Went w S p s w' := by
  have c1 := h.c1
  have c2 := h.c2
  have c3 := h.c3
  have hpl := h.lt _ h.sp
  obtain ⟨A1, cp1, rfl, -, -⟩ := h.io.len_
  obtain ⟨A2, cp2, rfl, -, -⟩ := h.oo.len_
  have ho0 : s.ofs.length = 0 := by rw [ho]; rfl
  have hi0 : s.inn.length = 0 := by rw [hi]; rfl
  have key : Hid (∀ b1, Went w S p s (w.alloc b1)) := fun b1 => Went.of ((Only.refl S w).alloc _) (h.below ((Below.refl _ _).alloc (Nat.le_refl _) b1))
  rw [ho0] at c2
  rw [hi0] at c1
  clear h hi ho ho0 hi0
  unfold It.v It0
  unfold pp
  cases hc : s.cl with
  | true =>
    rw [hc] at c3
    go_enter Try.func10, Try.ntmps10
    go_wp2_with fail
    go_returns
    exact ⟨rfl, key.out _⟩
  | false =>
    rw [hc] at c3
    go_enter Try.func10, Try.ntmps10
    go_wp2_with fail
    go_returns
    exact ⟨rfl, key.out _⟩

/-- A struct of seven cells is laid down at an old block. -/
def set7 (w : World) (b : Nat) (x : It) : World :=
  ((((((w.setCell ⟨b, 0, none⟩ (.int .i64 x.n)).setCell ⟨b, 1, none⟩ (.int .i64 x.buf)).setCell ⟨b, 2, none⟩ (.int .i64 x.rn)).setCell ⟨b, 3, none⟩ (.int .i64 x.ra)).setCell ⟨b, 4, none⟩ (.string x.rt)).setCell ⟨b, 5, none⟩ (.slice x.ha x.hn x.hc)).setCell ⟨b, 6, none⟩ (.int .i64 x.err)
theorem set7_only (w : World) (b : Nat) (x : It) : Only (fun k => k = b) w (set7 w b x) := by
  unfold set7
  have st : ∀ (W W' : World) (j : Nat) (v : Value), Only (fun k => k = b) W W' → Only (fun k => k = b) W (W'.setCell ⟨b, j, none⟩ v) := fun W W' j v h => h.setCell (p := ⟨b, j, none⟩) (fun _ => rfl) v
  exact st _ _ _ _ (st _ _ _ _ (st _ _ _ _ (st _ _ _ _ (st _ _ _ _ (st _ _ _ _ (st _ _ _ _ (Only.refl _ w)))))))
theorem set7_blk {w : World} {b : Nat} (x : It) (h : Blk w b 34 #[.int .i64 0, .int .i64 0, .int .i64 0, .int .i64 0, .string ⟨#[]⟩, .slice none 0 0, .int .i64 0]) :
    Blk (set7 w b x) b 34 #[.int .i64 x.n, .int .i64 x.buf, .int .i64 x.rn, .int .i64 x.ra, .string x.rt, .slice x.ha x.hn x.hc, .int .i64 x.err] := by
  have := ((((((h.set_ 0 (.int .i64 x.n)).set_ 1 (.int .i64 x.buf)).set_ 2 (.int .i64 x.rn)).set_ 3 (.int .i64 x.ra)).set_ 4 (.string x.rt)).set_ 5 (.slice x.ha x.hn x.hc)).set_ 6 (.int .i64 x.err)
  simpa [set7] using this
theorem results_ct {fn : Func} {p u : Tmp} {ty : TypeId} (h : fn.results = #[.cell p ty, .tmp u]) (tmps : Array Value) {P : Program} (w : World) (g : Nat) (cs : Array Value)
    (hp : tmps.getD p undef = .pointer (some ⟨g, 0, none⟩)) (hl : (loadVar ty ⟨g, 0, none⟩).run P w = .ok (.agg cs) w) :
    (results fn tmps).run P w = .ok (.tuple #[.agg cs, tmps.getD u undef]) w := by
  have hp' : tmps[p]?.getD undef = .pointer (some ⟨g, 0, none⟩) := by simpa using hp
  rw [results_cell_tmp h]
  simp [hp', asAddr, hl]
theorem load_item {w : World} {b : Nat} {cs : Array Value} (h : Blk w b 34 cs) (hs : cs.size = 7) : (loadVar 34 ⟨b, 0, none⟩).run Try.prog w = .ok (.agg cs) w :=
  run_loadVar_row w b 34 34 cs (0, 0) _ h Try.underlying34 rfl (by rw [hs]; kernel_rfl)
theorem Went.of7 {w w1 : World} {S : Nat → Prop} {p b : Nat} {iv ov : Value} {s' : PS} (x : It) (ho : Only S w w1) (hb : w.heap.size ≤ b) (h : RepA w1 (fun k => S k ∨ (w.heap.size ≤ k ∧ k < w1.heap.size ∧ k ≠ b)) p iv ov s') (hS : ∀ k, S k → k < w.heap.size) : Went w S p s' (set7 w1 b x) := by
  have h7 := set7_only w1 b x
  refine ⟨ho.trans h7 fun k hk hh => by omega, iv, ov, ?_⟩
  refine (h.frame h7 fun k hk hh => ?_).mono (fun k hk => ?_) (fun k hk => ?_)
  · rcases hk with hk | hk
    · have := hS k hk; omega
    · exact hk.2.2 hh
  · rcases hk with hk | hk
    · exact .inl hk
    · exact .inr ⟨hk.1, Nat.lt_of_lt_of_le hk.2.1 h7.size⟩
  · rcases hk with hk | hk
    · have := hS k hk; have := ho.size; have := h7.size; omega
    · exact hk.2

set_option maxHeartbeats 4000000 in
theorem take_of {S : Nat → Prop} {p : Nat} {s : PS} {iv ov : Value} (o : Of) (u : List Of) (w : World) (h : RepA w S p iv ov s) (hi : s.inn = []) (ho : s.ofs = o :: u) :
    Calls Try.prog 10 #[pp p] w fun e w' => e = .returned (.tuple #[o.2.v, .int .i64 0]) ∧ Went w S p { s with ofs := u } w' := by
  have hb : ∀ b, Below w.heap.size w (w.alloc b) := fun b => below_al (Below.refl _ _) b
  have h1 := h.below (hb (.cells #[.int .i64 0, .int .i64 0, .int .i64 0, .int .i64 0, .string ⟨#[]⟩, .slice none 0 0, .int .i64 0] 34))
  have hs := h.lt
  have c1 := h.c1
  have c2 := h.c2
  have hpl := h.lt _ h.sp
  obtain ⟨A1, cp1, rfl, -, -⟩ := h.io.len_
  obtain ⟨A2, cp2, rfl, -, -⟩ := h.oo.len_
  have ho0 : s.ofs.length = u.length + 1 := by rw [ho]; rfl
  have hi0 : s.inn.length = 0 := by rw [hi]; rfl
  have HF := Lib.hid (first_any o u _ h1 ho)
  rw [ho0] at c2
  rw [hi0] at c1
  have hn0 : (0 : Int) < (u.length : Int) + 1 := by omega
  have HS := Lib.hid hs
  have HO0 := Lib.hid ((Only.refl S w).alloc (.cells #[.int .i64 0, .int .i64 0, .int .i64 0, .int .i64 0, .string ⟨#[]⟩, .slice none 0 0, .int .i64 0] 34))
  obtain ⟨x, xn, xb, xrn, xra, xrt, xha, xhn, xhc, xe⟩ := o
  clear h h1 hi ho ho0 hi0 hb hs
  unfold It.v at HF ⊢
  unfold pp at HF ⊢
  go_enter Try.func10, Try.ntmps10
  go_wp2_with (go_at_call 24; refine HF.out.mono ?_; rintro e1 w1 ⟨rfl, hO1, hsz1, ov1, hr1⟩; have hbk := (Blk.new w 34 #[.int .i64 0, .int .i64 0, .int .i64 0, .int .i64 0, .string ⟨#[]⟩, .slice none 0 0, .int .i64 0]).only hO1 (fun hh => by have := HS.out _ hh; omega); have HBK := Lib.hid hbk; have HR1 := Lib.hid hr1; have HO1 := Lib.hid (HO0.out.trans hO1 fun _ _ hh => hh); have z0 : w1.cell? ⟨w.heap.size, 0, none⟩ = some (.int .i64 0) := hbk.cell 0; have z1 : w1.cell? ⟨w.heap.size, 1, none⟩ = some (.int .i64 0) := hbk.cell 1; have z2 : w1.cell? ⟨w.heap.size, 2, none⟩ = some (.int .i64 0) := hbk.cell 2; have z3 : w1.cell? ⟨w.heap.size, 3, none⟩ = some (.int .i64 0) := hbk.cell 3; have z4 : w1.cell? ⟨w.heap.size, 4, none⟩ = some (.string ⟨#[]⟩) := hbk.cell 4; have z5 : w1.cell? ⟨w.heap.size, 5, none⟩ = some (.slice none 0 0) := hbk.cell 5; have z6 : w1.cell? ⟨w.heap.size, 6, none⟩ = some (.int .i64 0) := hbk.cell 6; have fz0 := hbk.frozen 0; have fz1 := hbk.frozen 1; have fz2 := hbk.frozen 2; have fz3 := hbk.frozen 3; have fz4 := hbk.frozen 4; have fz5 := hbk.frozen 5; have fz6 := hbk.frozen 6; clear hO1 hr1 hbk)
  (try simp only [Exit.inBlock, Exit.then])
  refine bodyPost_ret (results_ct rfl _ _ w.heap.size _ rfl (load_item (set7_blk ⟨xn, xb, xrn, xra, xrt, xha, xhn, xhc, xe⟩ HBK.out) rfl)) rfl ?_
  exact ⟨rfl, Went.of7 ⟨xn, xb, xrn, xra, xrt, xha, xhn, xhc, xe⟩ HO1.out (Nat.le_refl _) (HR1.out.mono (fun _ hk => .inl hk) fun k hk => by rcases hk with hk | hk; exact HR1.out.lt k hk; exact hk.2.1) HS.out⟩

set_option maxHeartbeats 8000000 in
theorem take_both {S : Nat → Prop} {p : Nat} {s : PS} {iv ov : Value} (x : It) (t : List It) (o : Of) (u : List Of) (w : World) (h : RepA w S p iv ov s) (hi : s.inn = x :: t) (ho : s.ofs = o :: u) (ht1 : t.length ≤ 1000000) :
    Calls Try.prog 10 #[pp p] w fun e w' => e = .returned (.tuple #[x.v, .int .i64 0]) ∧ Went w S p { s with inn := t ++ [o.2], ofs := u } w' := by
  obtain ⟨i0, hi0, hz0, hz1, hz2⟩ := info_parts infoI
  obtain ⟨g, off, cap, rfl, hcap, hsg, htl, kk⟩ := tail_in h hi
  obtain ⟨xn, xb, xrn, xra, xrt, xha, xhn, xhc, xe⟩ := x
  obtain ⟨who, yn, yb, yrn, yra, yrt, yha, yhn, yhc, ye⟩ := o
  have c1 := h.c1
  have c2 := h.c2
  have f1 := h.fp 1
  have hpl := h.lt _ h.sp
  have hgl := h.lt _ hsg
  obtain ⟨A2, cp2, rfl, -, -⟩ := h.oo.len_
  have ho0 : s.ofs.length = u.length + 1 := by rw [ho]; rfl
  have key : Hid (∀ v', Own w 34 7 v' t.length (ics t) → (∀ k, v'.ownBlock = some k → S k) → ∃ w2, w2 = (((w.setCell ⟨p, 1, none⟩ v').alloc (.cells #[.int .i64 0, .int .i64 0, .int .i64 0, .int .i64 0, .string ⟨#[]⟩, .slice none 0 0, .int .i64 0] 34)).alloc (.cells #[.int .i64 xn, .int .i64 xb, .int .i64 xrn, .int .i64 xra, .string xrt, .slice xha xhn xhc, .int .i64 xe] 34)) ∧
      RepA w2 S p v' (.slice A2 s.ofs.length cp2) { s with inn := t } ∧ Only S w w2 ∧ Blk w2 w.heap.size 34 #[.int .i64 0, .int .i64 0, .int .i64 0, .int .i64 0, .string ⟨#[]⟩, .slice none 0 0, .int .i64 0] ∧ Blk w2 (w.heap.size + 1) 34 #[.int .i64 xn, .int .i64 xb, .int .i64 xrn, .int .i64 xra, .string xrt, .slice xha xhn xhc, .int .i64 xe] ∧ w2.heap.size = w.heap.size + 2) := by
    intro v' hv hs
    have h1 := h.setIn v' t hv hs
    have e1 : (w.setCell ⟨p, 1, none⟩ v').heap.size = w.heap.size := by simp [World.setCell]
    refine ⟨_, rfl, ?_, ((Only.refl S w).setCell (p := ⟨p, 1, none⟩) (fun _ => h.sp) _ |>.alloc _).alloc _, ?_, ?_, by simp [World.setCell]⟩
    · have h2 := h1.below ((Below.refl _ _).alloc (Nat.le_refl _) (.cells #[.int .i64 0, .int .i64 0, .int .i64 0, .int .i64 0, .string ⟨#[]⟩, .slice none 0 0, .int .i64 0] 34))
      exact h2.below ((Below.refl _ _).alloc (Nat.le_refl _) _)
    · have := Blk.new (w.setCell ⟨p, 1, none⟩ v') 34 #[.int .i64 0, .int .i64 0, .int .i64 0, .int .i64 0, .string ⟨#[]⟩, .slice none 0 0, .int .i64 0]
      rw [e1] at this
      exact this.only ((Only.refl (fun k => False) _).alloc _) (fun h => h)
    · have := Blk.new ((w.setCell ⟨p, 1, none⟩ v').alloc (.cells #[.int .i64 0, .int .i64 0, .int .i64 0, .int .i64 0, .string ⟨#[]⟩, .slice none 0 0, .int .i64 0] 34)) 34 #[.int .i64 xn, .int .i64 xb, .int .i64 xrn, .int .i64 xra, .string xrt, .slice xha xhn xhc, .int .i64 xe]
      have e2 : ((w.setCell ⟨p, 1, none⟩ v').alloc (.cells #[.int .i64 0, .int .i64 0, .int .i64 0, .int .i64 0, .string ⟨#[]⟩, .slice none 0 0, .int .i64 0] 34)).heap.size = w.heap.size + 1 := by simp [World.setCell]
      rw [e2] at this
      exact this
  rw [ho0] at c2
  have k0 := kk 0 (by omega); have k1 := kk 1 (by omega); have k2 := kk 2 (by omega); have k3 := kk 3 (by omega); have k4 := kk 4 (by omega); have k5 := kk 5 (by omega); have k6 := kk 6 (by omega)
  simp only [It.cs, List.getElem?_cons_zero, List.getElem?_cons_succ, Nat.add_zero] at k0 k1 k2 k3 k4 k5 k6
  have HT := Lib.hid htl
  have HSG := Lib.hid hsg
  have HS := Lib.hid h.lt
  have HOF := Lib.hid ho
  have hn0 : (0 : Int) < (t.length : Int) + 1 := by omega
  have hn1 : (0 : Int) < (u.length : Int) + 1 := by omega
  clear h kk hi ho htl hsg ho0
  unfold It.v
  unfold pp
  go_enter Try.func10, Try.ntmps10
  go_wp2_with fail
  · have hv := (by have := HT.out; rw [if_pos h, h] at this; exact this : Own w 34 7 (.slice (some ⟨g, off, none⟩) t.length 0) t.length (ics t))
    obtain ⟨w2, hw2, hr2, hO2, hb2, hb3, hsz2⟩ := key.out (.slice (some ⟨g, off, none⟩) t.length 0) hv (by intro k hk; simp [Value.ownBlock] at hk; rw [← hk]; exact HSG.out)
    rw [← hw2]
    have HRD : Hid (RepA w2.drew S p (.slice (some ⟨g, off, none⟩) t.length 0) (.slice A2 s.ofs.length cp2) { s with inn := t }) := hr2.below (below_drewN (Below.refl _ _) 1)
    have HF := Lib.hid (first_any (who, ⟨yn, yb, yrn, yra, yrt, yha, yhn, yhc, ye⟩) u w2.drew HRD.out HOF.out)
    have HO2 : Hid (Only S w w2.drew) := hO2.trans (Only.of_below (below_drewN (B := w2.heap.size) (Below.refl _ _) 1)) fun k hk hh => by have := hO2.size; omega
    have HB2 : Hid (Blk w2.drew w.heap.size _ _) := hb2
    have HB3 : Hid (Blk w2.drew (w.heap.size + 1) _ _) := hb3
    have HSZ2 : Hid (w2.drew.heap.size = w.heap.size + 2) := hsz2
    have c1' := hr2.c1
    have f1' := hr2.fp 1
    have hplw := hr2.lt _ hr2.sp
    clear hr2 hO2 hb2 hb3 hsz2 hv hw2 k0 k1 k2 k3 k4 k5 k6 c1 c2 f1
    unfold It.v pp at HF
    go_region_law (first
      | (refine step_fn rfl (.tmp 37) 24 _ rfl enter_first _ HF.out ?_; rintro e1 w3 ⟨rfl, hO3, hsz3, ov3, hr3⟩; refine ⟨_, rfl, ?_⟩; have HR3 := Lib.hid hr3; have c13 := hr3.c1; have f13 := hr3.fp 1; have hpl3 := hr3.lt _ hr3.sp; have HO3 := Lib.hid hO3; clear hO3 hr3)
      | (refine step_append_mine _ rfl (.tmp 36) (.tmp 39) _ rfl 34 i0 _ 7 80 Try.underlying37 hi0 hz0 hz1 hz2 rfl (by omega) (.slice (some ⟨g, off, none⟩) t.length 0) t.length (ics t) rfl (by exact HR3.out.io.alloc _) _ 1 1 [.int .i64 yn, .int .i64 yb, .int .i64 yrn, .int .i64 yra, .string yrt, .slice yha yhn yhc, .int .i64 ye] rfl rfl (by exact news_pushs rfl rfl) (by simp [Value.oneCell']) (by omega) (by simp only [maxLen]; omega) (by omega) _ rfl ?_; intro g2 o2 cc2 w4 hown2 hgrow2 hat2; obtain ⟨cc, ff, HK⟩ := HR3.out.pushIn ⟨yn, yb, yrn, yra, yrt, yha, yhn, yhc, ye⟩ rfl hown2 hgrow2 hat2; clear hown2 hgrow2 hat2))
    all_goals (
      obtain ⟨w6, hw6⟩ : ∃ w6, w4.setCell ⟨p, 1, none⟩ (.slice (some ⟨g2, o2, none⟩) (t.length + 1) cc2) = w6 := ⟨_, rfl⟩
      have HK6 := HK.out
      simp only at HK6
      rw [hw6] at HK6 ⊢
      have hO36 := HO3.out.trans HK6.1 fun _ _ hh => hh
      have hns : ∀ k, w.heap.size ≤ k → ¬ S k := fun k hk hh => by have := HS.out k hh; omega
      have hb2 := HB2.out.only hO36 (hns _ (Nat.le_refl _))
      have hb3 := HB3.out.only hO36 (hns _ (by omega))
      have HB6 := Lib.hid hb2
      have z0 : w6.cell? ⟨w.heap.size, 0, none⟩ = some (.int .i64 0) := hb2.cell 0
      have fz0 := hb2.frozen 0
      have d0 : w6.cell? ⟨w.heap.size + 1, 0, none⟩ = some (.int .i64 xn) := hb3.cell 0
      have z1 : w6.cell? ⟨w.heap.size, 1, none⟩ = some (.int .i64 0) := hb2.cell 1
      have fz1 := hb2.frozen 1
      have d1 : w6.cell? ⟨w.heap.size + 1, 1, none⟩ = some (.int .i64 xb) := hb3.cell 1
      have z2 : w6.cell? ⟨w.heap.size, 2, none⟩ = some (.int .i64 0) := hb2.cell 2
      have fz2 := hb2.frozen 2
      have d2 : w6.cell? ⟨w.heap.size + 1, 2, none⟩ = some (.int .i64 xrn) := hb3.cell 2
      have z3 : w6.cell? ⟨w.heap.size, 3, none⟩ = some (.int .i64 0) := hb2.cell 3
      have fz3 := hb2.frozen 3
      have d3 : w6.cell? ⟨w.heap.size + 1, 3, none⟩ = some (.int .i64 xra) := hb3.cell 3
      have z4 : w6.cell? ⟨w.heap.size, 4, none⟩ = some (.string ⟨#[]⟩) := hb2.cell 4
      have fz4 := hb2.frozen 4
      have d4 : w6.cell? ⟨w.heap.size + 1, 4, none⟩ = some (.string xrt) := hb3.cell 4
      have z5 : w6.cell? ⟨w.heap.size, 5, none⟩ = some (.slice none 0 0) := hb2.cell 5
      have fz5 := hb2.frozen 5
      have d5 : w6.cell? ⟨w.heap.size + 1, 5, none⟩ = some (.slice xha xhn xhc) := hb3.cell 5
      have z6 : w6.cell? ⟨w.heap.size, 6, none⟩ = some (.int .i64 0) := hb2.cell 6
      have fz6 := hb2.frozen 6
      have d6 : w6.cell? ⟨w.heap.size + 1, 6, none⟩ = some (.int .i64 xe) := hb3.cell 6
      have HO6 : Hid (Only S w w6) := HO2.out.trans hO36 fun _ _ hh => hh
      have HS3 : Hid (w.heap.size + 2 ≤ w3.heap.size) := by have h1 := HO3.out.size; have h2 := HSZ2.out; show _ ≤ _; omega
      have HR6 := Lib.hid HK6.2
      clear hw6 HK6 hO36 hns hb2 hb3 HK HR3 HO3 cc ff c13 f13 hpl3 c1' f1'
      go_wp2_with fail
      (try simp only [Exit.inBlock, Exit.then])
      refine bodyPost_ret (results_ct rfl _ _ w.heap.size _ rfl (load_item (set7_blk ⟨xn, xb, xrn, xra, xrt, xha, xhn, xhc, xe⟩ HB6.out) rfl)) rfl ?_
      obtain ⟨iv6, ov6, hr6⟩ := HR6.out
      refine ⟨rfl, Went.of7 ⟨xn, xb, xrn, xra, xrt, xha, xhn, xhc, xe⟩ HO6.out (Nat.le_refl _) (hr6.mono (fun k hk => ?_) fun k hk => ?_) HS.out⟩
      · have := HS3.out; rcases hk with hk | hk; exact .inl hk; exact .inr ⟨by omega, hk.2, by omega⟩
      · rcases hk with hk | hk; exact Nat.lt_of_lt_of_le (HS.out k hk) HO6.out.size; exact hk.2.1)
  · have hv := (by have := HT.out; rw [if_neg h] at this; exact this : Own w 34 7 (.slice (some ⟨g, off + 7, none⟩) t.length (cap - 1)) t.length (ics t))
    obtain ⟨w2, hw2, hr2, hO2, hb2, hb3, hsz2⟩ := key.out (.slice (some ⟨g, off + 7, none⟩) t.length (cap - 1)) hv (by intro k hk; simp [Value.ownBlock] at hk; rw [← hk]; exact HSG.out)
    rw [← hw2]
    have HRD : Hid (RepA w2.drew S p (.slice (some ⟨g, off + 7, none⟩) t.length (cap - 1)) (.slice A2 s.ofs.length cp2) { s with inn := t }) := hr2.below (below_drewN (Below.refl _ _) 1)
    have HF := Lib.hid (first_any (who, ⟨yn, yb, yrn, yra, yrt, yha, yhn, yhc, ye⟩) u w2.drew HRD.out HOF.out)
    have HO2 : Hid (Only S w w2.drew) := hO2.trans (Only.of_below (below_drewN (B := w2.heap.size) (Below.refl _ _) 1)) fun k hk hh => by have := hO2.size; omega
    have HB2 : Hid (Blk w2.drew w.heap.size _ _) := hb2
    have HB3 : Hid (Blk w2.drew (w.heap.size + 1) _ _) := hb3
    have HSZ2 : Hid (w2.drew.heap.size = w.heap.size + 2) := hsz2
    have c1' := hr2.c1
    have f1' := hr2.fp 1
    have hplw := hr2.lt _ hr2.sp
    clear hr2 hO2 hb2 hb3 hsz2 hv hw2 k0 k1 k2 k3 k4 k5 k6 c1 c2 f1
    unfold It.v pp at HF
    go_region_law (first
      | (refine step_fn rfl (.tmp 37) 24 _ rfl enter_first _ HF.out ?_; rintro e1 w3 ⟨rfl, hO3, hsz3, ov3, hr3⟩; refine ⟨_, rfl, ?_⟩; have HR3 := Lib.hid hr3; have c13 := hr3.c1; have f13 := hr3.fp 1; have hpl3 := hr3.lt _ hr3.sp; have HO3 := Lib.hid hO3; clear hO3 hr3)
      | (refine step_append_mine _ rfl (.tmp 36) (.tmp 39) _ rfl 34 i0 _ 7 80 Try.underlying37 hi0 hz0 hz1 hz2 rfl (by omega) (.slice (some ⟨g, off + 7, none⟩) t.length (cap - 1)) t.length (ics t) rfl (by exact HR3.out.io.alloc _) _ 1 1 [.int .i64 yn, .int .i64 yb, .int .i64 yrn, .int .i64 yra, .string yrt, .slice yha yhn yhc, .int .i64 ye] rfl rfl (by exact news_pushs rfl rfl) (by simp [Value.oneCell']) (by omega) (by simp only [maxLen]; omega) (by omega) _ rfl ?_; intro g2 o2 cc2 w4 hown2 hgrow2 hat2; obtain ⟨cc, ff, HK⟩ := HR3.out.pushIn ⟨yn, yb, yrn, yra, yrt, yha, yhn, yhc, ye⟩ rfl hown2 hgrow2 hat2; clear hown2 hgrow2 hat2))
    all_goals (
      obtain ⟨w6, hw6⟩ : ∃ w6, w4.setCell ⟨p, 1, none⟩ (.slice (some ⟨g2, o2, none⟩) (t.length + 1) cc2) = w6 := ⟨_, rfl⟩
      have HK6 := HK.out
      simp only at HK6
      rw [hw6] at HK6 ⊢
      have hO36 := HO3.out.trans HK6.1 fun _ _ hh => hh
      have hns : ∀ k, w.heap.size ≤ k → ¬ S k := fun k hk hh => by have := HS.out k hh; omega
      have hb2 := HB2.out.only hO36 (hns _ (Nat.le_refl _))
      have hb3 := HB3.out.only hO36 (hns _ (by omega))
      have HB6 := Lib.hid hb2
      have z0 : w6.cell? ⟨w.heap.size, 0, none⟩ = some (.int .i64 0) := hb2.cell 0
      have fz0 := hb2.frozen 0
      have d0 : w6.cell? ⟨w.heap.size + 1, 0, none⟩ = some (.int .i64 xn) := hb3.cell 0
      have z1 : w6.cell? ⟨w.heap.size, 1, none⟩ = some (.int .i64 0) := hb2.cell 1
      have fz1 := hb2.frozen 1
      have d1 : w6.cell? ⟨w.heap.size + 1, 1, none⟩ = some (.int .i64 xb) := hb3.cell 1
      have z2 : w6.cell? ⟨w.heap.size, 2, none⟩ = some (.int .i64 0) := hb2.cell 2
      have fz2 := hb2.frozen 2
      have d2 : w6.cell? ⟨w.heap.size + 1, 2, none⟩ = some (.int .i64 xrn) := hb3.cell 2
      have z3 : w6.cell? ⟨w.heap.size, 3, none⟩ = some (.int .i64 0) := hb2.cell 3
      have fz3 := hb2.frozen 3
      have d3 : w6.cell? ⟨w.heap.size + 1, 3, none⟩ = some (.int .i64 xra) := hb3.cell 3
      have z4 : w6.cell? ⟨w.heap.size, 4, none⟩ = some (.string ⟨#[]⟩) := hb2.cell 4
      have fz4 := hb2.frozen 4
      have d4 : w6.cell? ⟨w.heap.size + 1, 4, none⟩ = some (.string xrt) := hb3.cell 4
      have z5 : w6.cell? ⟨w.heap.size, 5, none⟩ = some (.slice none 0 0) := hb2.cell 5
      have fz5 := hb2.frozen 5
      have d5 : w6.cell? ⟨w.heap.size + 1, 5, none⟩ = some (.slice xha xhn xhc) := hb3.cell 5
      have z6 : w6.cell? ⟨w.heap.size, 6, none⟩ = some (.int .i64 0) := hb2.cell 6
      have fz6 := hb2.frozen 6
      have d6 : w6.cell? ⟨w.heap.size + 1, 6, none⟩ = some (.int .i64 xe) := hb3.cell 6
      have HO6 : Hid (Only S w w6) := HO2.out.trans hO36 fun _ _ hh => hh
      have HS3 : Hid (w.heap.size + 2 ≤ w3.heap.size) := by have h1 := HO3.out.size; have h2 := HSZ2.out; show _ ≤ _; omega
      have HR6 := Lib.hid HK6.2
      clear hw6 HK6 hO36 hns hb2 hb3 HK HR3 HO3 cc ff c13 f13 hpl3 c1' f1'
      go_wp2_with fail
      (try simp only [Exit.inBlock, Exit.then])
      refine bodyPost_ret (results_ct rfl _ _ w.heap.size _ rfl (load_item (set7_blk ⟨xn, xb, xrn, xra, xrt, xha, xhn, xhc, xe⟩ HB6.out) rfl)) rfl ?_
      obtain ⟨iv6, ov6, hr6⟩ := HR6.out
      refine ⟨rfl, Went.of7 ⟨xn, xb, xrn, xra, xrt, xha, xhn, xhc, xe⟩ HO6.out (Nat.le_refl _) (hr6.mono (fun k hk => ?_) fun k hk => ?_) HS.out⟩
      · have := HS3.out; rcases hk with hk | hk; exact .inl hk; exact .inr ⟨by omega, hk.2, by omega⟩
      · rcases hk with hk | hk; exact Nat.lt_of_lt_of_le (HS.out k hk) HO6.out.size; exact hk.2.1)
end Go.Proofs.Ytfndppjicneliaa
