/-
  The splitter's state and how it lies in memory; the contracts of its functions New, end, record and Held; no condition beyond those that each theorem states.
-/
import Derived.Test.YthgjfdjjnkgicaaStr7
namespace Go.Proofs.Ythgjfdjjnkgicaa
open Go.RowKit Go.Rb
attribute [local irreducible] Go.wpQuiet

def nV (k : Nat) : Value := .int .i64 (k : Int)
def pp (p : Nat) : Value := .pointer (some ⟨p, 0, none⟩)
structure SS where
  most : Nat
  held : List UInt8
  n : Nat
  a : Nat
  over : Bool
def Rep (w : World) (p : Nat) (s : SS) : Prop := Blk w p 43 #[nV s.most, .string (mk s.held), nV s.n, nV s.a, .bool s.over]
/-- A record. -/
structure Rc where
  n : Nat
  a : Nat
  t : List UInt8
def rc (x : Rc) : List Value := [nV x.n, nV x.a, .string (mk x.t)]
def rcv (x : Rc) : Value := .agg #[nV x.n, nV x.a, .string (mk x.t)]
def rcs (l : List Rc) : List Value := l.flatMap rc
theorem rcs_len : ∀ l : List Rc, (rcs l).length = l.length * 3
  | [] => rfl
  | x :: t => by have := rcs_len t; simp only [rcs, rc, List.flatMap_cons, List.length_append, List.length_cons, List.length_nil] at this ⊢; omega
theorem rcs_append (a b : List Rc) : rcs (a ++ b) = rcs a ++ rcs b := List.flatMap_append
theorem rcs_get : ∀ (l : List Rc) (i j : Nat) (h : i < l.length), j < 3 → (rcs l)[i * 3 + j]? = (rc l[i])[j]?
  | x :: t, 0, j, _, hj => by
    show (rc x ++ rcs t)[0 * 3 + j]? = _
    rw [Nat.zero_mul, Nat.zero_add, List.getElem?_append_left (by simpa [rc] using hj)]; rfl
  | x :: t, i + 1, j, h, hj => by
    show (rc x ++ rcs t)[(i + 1) * 3 + j]? = _
    have e : (i + 1) * 3 + j = (rc x).length + (i * 3 + j) := by simp [rc]; omega
    rw [e, List.getElem?_append_right (by omega), Nat.add_sub_cancel_left]
    exact rcs_get t i j (by simpa using h) hj
def endS (s : SS) : SS := { s with held := [], over := true }
section
variable {w w' : World} {p : Nat} {s : SS} {T : Nat → Prop}
theorem Rep.c0 (h : Rep w p s) : w.cell? ⟨p, 0, none⟩ = some (.int .i64 (s.most : Int)) := by rw [Blk.cell h]; rfl
theorem Rep.c1 (h : Rep w p s) : w.cell? ⟨p, 1, none⟩ = some (.string (mk s.held)) := by rw [Blk.cell h]; rfl
theorem Rep.c2 (h : Rep w p s) : w.cell? ⟨p, 2, none⟩ = some (.int .i64 (s.n : Int)) := by rw [Blk.cell h]; rfl
theorem Rep.c3 (h : Rep w p s) : w.cell? ⟨p, 3, none⟩ = some (.int .i64 (s.a : Int)) := by rw [Blk.cell h]; rfl
theorem Rep.c4 (h : Rep w p s) : w.cell? ⟨p, 4, none⟩ = some (.bool s.over) := by rw [Blk.cell h]; rfl
theorem Rep.fp (h : Rep w p s) (i : Nat) : w.frozen? ⟨p, i, none⟩ = false := Blk.frozen h i
theorem Rep.frame (h : Rep w p s) (hb : Only T w w') (hd : ¬ T p) : Rep w' p s := Blk.only h hb hd
theorem Rep.lt (h : Rep w p s) : p < w.heap.size := Blk.lt h
theorem Rep.below (h : Rep w p s) (hb : Below w.heap.size w w') : Rep w' p s := h.frame (Only.of_below hb) (by have := h.lt; omega)
theorem Rep.setHeld (h : Rep w p s) (l : List UInt8) : Rep (w.setCell ⟨p, 1, none⟩ (.string (mk l))) p { s with held := l } := by simpa [Rep] using Blk.set_ h 1 (.string (mk l))
theorem Rep.setN (h : Rep w p s) (k : Nat) : Rep (w.setCell ⟨p, 2, none⟩ (nV k)) p { s with n := k } := by simpa [Rep] using Blk.set_ h 2 (nV k)
theorem Rep.setA (h : Rep w p s) (k : Nat) : Rep (w.setCell ⟨p, 3, none⟩ (nV k)) p { s with a := k } := by simpa [Rep] using Blk.set_ h 3 (nV k)
theorem Rep.setOver (h : Rep w p s) (b : Bool) : Rep (w.setCell ⟨p, 4, none⟩ (.bool b)) p { s with over := b } := by simpa [Rep] using Blk.set_ h 4 (.bool b)
end
/-- What a call has done: only its block, and what is new. -/
def Went (w : World) (p : Nat) (s' : SS) (w' : World) : Prop := Only (fun k => k = p) w w' ∧ Rep w' p s'

set_option maxHeartbeats 1000000 in
theorem end_any {p : Nat} {s : SS} (w : World) (h : Rep w p s) : Calls Try.prog 18 #[pp p] w fun e w' => e = .returned (.tuple #[]) ∧ Went w p (endS s) w' := by
  have c1 := h.c1
  have c4 := h.c4
  have f1 := h.fp 1
  have f4 := h.fp 4
  have hl := h.lt
  have key : Hid (Went w p (endS s) ((w.setCell ⟨p, 4, none⟩ (.bool true)).setCell ⟨p, 1, none⟩ (.string ⟨#[]⟩))) :=
    ⟨((Only.refl (fun k => k = p) w).setCell (p := ⟨p, 4, none⟩) (fun _ => rfl) _).setCell (p := ⟨p, 1, none⟩) (fun _ => rfl) _, (h.setOver true).setHeld []⟩
  clear h
  unfold pp
  go_enter Try.func18, Try.ntmps18
  go_wp2_with fail
  go_end0
  exact ⟨rfl, key.out⟩
set_option maxHeartbeats 1000000 in
theorem held_any {p : Nat} {s : SS} (w : World) (h : Rep w p s) : Calls Try.prog 13 #[pp p] w fun e w' => e = .returned (.int .i64 (s.held.length : Int)) ∧ w = w' := by
  have c1 := h.c1
  have hz := mk_size s.held
  clear h
  generalize mk s.held = b at *
  generalize s.held.length = m at *
  unfold pp
  go_enter Try.func13, Try.ntmps13
  go_wp2_with fail
  go_ret
  exact ⟨by first | rfl | rw [← hz]; rfl, rfl⟩
set_option maxHeartbeats 1000000 in
theorem new_ok (n : Nat) (w : World) (h1 : 1 ≤ n) (h2 : n ≤ 4096) : Calls Try.prog 11 #[.int .i64 (n : Int)] w fun e w' => e = .returned (.tuple #[pp w.heap.size, .int .i64 0]) ∧ Below w.heap.size w w' ∧ Rep w' w.heap.size ⟨n, [], 0, 0, false⟩ ∧ w'.heap.size = w.heap.size + 1 := by
  have i1 : ¬ (n : Int) < 1 := by omega
  have i2 : ¬ (4096 : Int) < (n : Int) := by omega
  unfold pp
  go_enter Try.func11, Try.ntmps11
  go_wp2_with fail
  go_ret2
  exact ⟨rfl, below_al (Below.refl _ _) _, Blk.new w _ _, by simp⟩
set_option maxHeartbeats 1000000 in
theorem new_bad (n : Int) (w : World) (h : n < 1 ∨ 4096 < n) : Calls Try.prog 11 #[.int .i64 n] w fun e w' => e = .returned (.tuple #[.pointer none, .int .i64 2]) ∧ w = w' := by
  by_cases h1 : n < 1
  · clear h
    go_enter Try.func11, Try.ntmps11
    go_wp2_with fail
    go_ret2
    exact ⟨rfl, rfl⟩
  · have h2 : 4096 < n := by omega
    clear h
    go_enter Try.func11, Try.ntmps11
    go_wp2_with fail
    go_ret2
    exact ⟨rfl, rfl⟩
/-- A record's block, written. -/
def set3 (w : World) (b : Nat) (v0 v1 v2 : Value) : World := ((w.setCell ⟨b, 0, none⟩ v0).setCell ⟨b, 1, none⟩ v1).setCell ⟨b, 2, none⟩ v2
theorem set3_only {w0 : World} {S : Nat → Prop} (w : World) (b : Nat) (v0 v1 v2 : Value) (hb : w0.heap.size ≤ b) (h : Only S w0 w) : Only S w0 (set3 w b v0 v1 v2) :=
  ((h.setCell (p := ⟨b, 0, none⟩) (fun hh => by simp only at hh; omega) _).setCell (p := ⟨b, 1, none⟩) (fun hh => by simp only at hh; omega) _).setCell (p := ⟨b, 2, none⟩) (fun hh => by simp only at hh; omega) _
theorem set3_one (w : World) (b : Nat) (v0 v1 v2 : Value) : Only (fun k => k = b) w (set3 w b v0 v1 v2) :=
  (((Only.refl (fun k => k = b) w).setCell (p := ⟨b, 0, none⟩) (fun _ => rfl) _).setCell (p := ⟨b, 1, none⟩) (fun _ => rfl) _).setCell (p := ⟨b, 2, none⟩) (fun _ => rfl) _
theorem set3_blk {w : World} {b : Nat} {u0 u1 u2 : Value} (v0 v1 v2 : Value) (h : Blk w b 32 #[u0, u1, u2]) : Blk (set3 w b v0 v1 v2) b 32 #[v0, v1, v2] := by
  have := ((h.set_ 0 v0).set_ 1 v1).set_ 2 v2
  simpa [set3] using this
theorem results_ct {fn : Func} {p u : Tmp} {ty : TypeId} (h : fn.results = #[.cell p ty, .tmp u]) (tmps : Array Value) {P : Program} (w : World) (g : Nat) (cs : Array Value)
    (hp : tmps.getD p undef = .pointer (some ⟨g, 0, none⟩)) (hl : (loadVar ty ⟨g, 0, none⟩).run P w = .ok (.agg cs) w) :
    (results fn tmps).run P w = .ok (.tuple #[.agg cs, tmps.getD u undef]) w := by
  have hp' : tmps[p]?.getD undef = .pointer (some ⟨g, 0, none⟩) := by simpa using hp
  rw [results_cell_tmp h]
  simp [hp', asAddr, hl]
theorem load_rec {w : World} {b : Nat} {cs : Array Value} (h : Blk w b 32 cs) (hs : cs.size = 3) : (loadVar 32 ⟨b, 0, none⟩).run Try.prog w = .ok (.agg cs) w :=
  run_loadVar_row w b 32 32 cs (0, 0) _ h Try.underlying32 rfl (by rw [hs]; kernel_rfl)
set_option maxHeartbeats 4000000 in
theorem record_long {p : Nat} {s : SS} (l : List UInt8) (k : Nat) (w : World) (h : Rep w p s) (hl : s.most < l.length) (hl2 : l.length ≤ 1000000) :
    Calls Try.prog 16 #[pp p, .string (mk l), .int .i64 (k : Int)] w fun e w' => e = .returned (.tuple #[.agg #[.int .i64 0, .int .i64 0, .string ⟨#[]⟩], .int .i64 10]) ∧ Went w p (endS s) w' := by
  have hz := mk_size l
  have h0 := h.below (below_al (Below.refl _ w) (.cells #[.int .i64 0, .int .i64 0, .string ⟨#[]⟩] 32))
  have c0 := h.c0
  have hpl := h.lt
  have HE := Lib.hid (end_any _ h0)
  have i1 : (s.most : Int) < (l.length : Int) := by omega
  have HO0 := Lib.hid ((Only.refl (fun k => k = p) w).alloc (.cells #[.int .i64 0, .int .i64 0, .string ⟨#[]⟩] 32))
  clear h h0
  generalize mk l = b at *
  generalize l.length = m at *
  unfold pp at HE ⊢
  go_enter Try.func16, Try.ntmps16
  go_wp2_with (go_at_call 18; go_loud (refine HE.out.mono ?_; rintro e1 w1 ⟨rfl, hO1, hr1⟩; have hbk := (Blk.new w 32 #[.int .i64 0, .int .i64 0, .string ⟨#[]⟩]).only hO1 (fun hh => by omega); have HBK := Lib.hid hbk; have HR1 := Lib.hid hr1; have HO1 := Lib.hid (HO0.out.trans hO1 fun _ _ hh => hh); have z0 : w1.cell? ⟨w.heap.size, 0, none⟩ = some (.int .i64 0) := hbk.cell 0; have z1 : w1.cell? ⟨w.heap.size, 1, none⟩ = some (.int .i64 0) := hbk.cell 1; have z2 : w1.cell? ⟨w.heap.size, 2, none⟩ = some (.string ⟨#[]⟩) := hbk.cell 2; have fz0 := hbk.frozen 0; have fz1 := hbk.frozen 1; have fz2 := hbk.frozen 2; clear hO1 hr1 hbk))
  (try simp only [Exit.inBlock, Exit.then])
  refine bodyPost_ret (results_ct rfl _ _ w.heap.size _ rfl (load_rec (set3_blk (.int .i64 0) (.int .i64 0) (.string ⟨#[]⟩) HBK.out) rfl)) rfl ?_
  exact ⟨rfl, set3_only _ _ _ _ _ (Nat.le_refl _) HO1.out, HR1.out.frame (set3_one _ _ _ _ _) (by omega)⟩
set_option maxHeartbeats 4000000 in
theorem record_ok {p : Nat} {s : SS} (l : List UInt8) (k : Nat) (w : World) (h : Rep w p s) (hl : l.length ≤ s.most) (hm : s.most ≤ 4096) (hk : k ≤ s.held.length) (hh : s.held.length ≤ 1000000) (hn : s.n ≤ 100000000) (ha : s.a ≤ 100000000) :
    Calls Try.prog 16 #[pp p, .string (mk l), .int .i64 (k : Int)] w fun e w' => e = .returned (.tuple #[rcv ⟨s.n, s.a, l⟩, .int .i64 0]) ∧ Went w p { s with held := s.held.drop k, n := s.n + 1, a := s.a + k } w' := by
  have hz := mk_size l
  have hz2 := mk_size s.held
  have c0 := h.c0
  have c1 := h.c1
  have c2 := h.c2
  have c3 := h.c3
  have f1 := h.fp 1
  have f2 := h.fp 2
  have f3 := h.fp 3
  have hpl := h.lt
  have i1 : ¬ (s.most : Int) < (l.length : Int) := by omega
  have he : Hid ((mk s.held).extract k s.held.length = mk (s.held.drop k)) := by
    rw [mk_extract, List.take_of_length_le (by simp)]; exact rfl
  have HH := Lib.hid h
  clear h
  unfold rcv nV
  obtain ⟨hb, hhb⟩ : ∃ b, mk s.held = b := ⟨_, rfl⟩
  rw [hhb] at he c1 hz2
  have HHB := Lib.hid hhb
  clear hhb
  generalize mk l = b at *
  unfold pp
  go_enter Try.func16, Try.ntmps16
  go_wp2_with fail
  go_region
  go_wp2_with fail
  go_returns
  refine ⟨rfl, ?_⟩
  rw [he.out]
  have h1 := ((HH.out.setN (s.n + 1)).setA (s.a + k)).setHeld (s.held.drop k)
  have ho := (((Only.refl (fun k => k = p) w).setCell (p := ⟨p, 2, none⟩) (fun _ => rfl) (nV (s.n + 1))).setCell (p := ⟨p, 3, none⟩) (fun _ => rfl) (nV (s.a + k))).setCell (p := ⟨p, 1, none⟩) (fun _ => rfl) (.string (mk (s.held.drop k)))
  have e1 : nV (s.n + 1) = .int .i64 ((s.n : Int) + 1) := by simp [nV]
  have e2 : nV (s.a + k) = .int .i64 ((s.a : Int) + (k : Int)) := by simp [nV]
  rw [e1, e2] at h1 ho
  exact ⟨((ho.alloc _).alloc _).drew, (h1.below ((below_al (below_al (Below.refl _ _) _) _).drew))⟩
end Go.Proofs.Ythgjfdjjnkgicaa
