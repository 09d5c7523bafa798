/-
  The pipe's state and how it lies in memory; the contracts of its small functions; no condition beyond those that each theorem states.
-/
import Derived.Test.YtfndppjicneliaaRegion
namespace Go.Proofs.Ytfndppjicneliaa
open Go.RowKit Go.Rb
attribute [local irreducible] Go.wpQuiet

/-- An item as it lies. -/
structure It where
  n : Int
  buf : Int
  rn : Int
  ra : Int
  rt : ByteArray
  ha : Option Addr
  hn : Nat
  hc : Nat
  err : Int
def It.cs (x : It) : List Value := [.int .i64 x.n, .int .i64 x.buf, .int .i64 x.rn, .int .i64 x.ra, .string x.rt, .slice x.ha x.hn x.hc, .int .i64 x.err]
def It.v (x : It) : Value := .agg #[.int .i64 x.n, .int .i64 x.buf, .int .i64 x.rn, .int .i64 x.ra, .string x.rt, .slice x.ha x.hn x.hc, .int .i64 x.err]
def It0 : It := ⟨0, 0, 0, 0, ⟨#[]⟩, none, 0, 0, 0⟩
def itN (n : Int) : It := ⟨n, 0, 0, 0, ⟨#[]⟩, none, 0, 0, 0⟩
abbrev Of := Int × It
def ofc (o : Of) : List Value := .int .i64 o.1 :: o.2.cs
def ofv (o : Of) : Value := .agg #[.int .i64 o.1, .int .i64 o.2.n, .int .i64 o.2.buf, .int .i64 o.2.rn, .int .i64 o.2.ra, .string o.2.rt, .slice o.2.ha o.2.hn o.2.hc, .int .i64 o.2.err]
def ics (l : List It) : List Value := l.flatMap It.cs
def ocs (l : List Of) : List Value := l.flatMap ofc
theorem It.cs_len (x : It) : x.cs.length = 7 := rfl
theorem ofc_len (o : Of) : (ofc o).length = 8 := rfl
theorem ics_len : ∀ l : List It, (ics l).length = l.length * 7
  | [] => rfl
  | x :: l => by have := ics_len l; simp only [ics, List.flatMap_cons, List.length_append, It.cs_len, List.length_cons] at *; omega
theorem ocs_len : ∀ l : List Of, (ocs l).length = l.length * 8
  | [] => rfl
  | x :: l => by have := ocs_len l; simp only [ocs, List.flatMap_cons, List.length_append, ofc_len, List.length_cons] at *; omega
theorem ics_append (a b : List It) : ics (a ++ b) = ics a ++ ics b := List.flatMap_append
theorem ocs_append (a b : List Of) : ocs (a ++ b) = ocs a ++ ocs b := List.flatMap_append
theorem ics_get : ∀ (l : List It) (i j : Nat) (h : i < l.length), j < 7 → (ics l)[i * 7 + j]? = (l[i]).cs[j]?
  | [], i, j, h, _ => absurd h (by simp)
  | x :: l, 0, j, _, hj => by
    show (x.cs ++ ics l)[0 * 7 + j]? = _
    rw [List.getElem?_append_left (by rw [It.cs_len]; omega)]; simp
  | x :: l, i + 1, j, h, hj => by
    show (x.cs ++ ics l)[(i + 1) * 7 + j]? = _
    rw [List.getElem?_append_right (by rw [It.cs_len]; omega), It.cs_len, show (i + 1) * 7 + j - 7 = i * 7 + j from by omega, ics_get l i j (by simpa using h) hj]
    rfl
theorem ocs_get : ∀ (l : List Of) (i j : Nat) (h : i < l.length), j < 8 → (ocs l)[i * 8 + j]? = (ofc l[i])[j]?
  | [], i, j, h, _ => absurd h (by simp)
  | x :: l, 0, j, _, hj => by
    show (ofc x ++ ocs l)[0 * 8 + j]? = _
    rw [List.getElem?_append_left (by rw [ofc_len]; omega)]; simp
  | x :: l, i + 1, j, h, hj => by
    show (ofc x ++ ocs l)[(i + 1) * 8 + j]? = _
    rw [List.getElem?_append_right (by rw [ofc_len]; omega), ofc_len, show (i + 1) * 8 + j - 8 = i * 8 + j from by omega, ocs_get l i j (by simpa using h) hj]
    rfl

/-- Its room; what is in it; what is offered; is it closed; how many were sent. -/
structure PS where
  room : Nat
  inn : List It
  ofs : List Of
  cl : Bool
  sent : Int
def nV (k : Nat) : Value := .int .i64 (k : Int)
def pp (p : Nat) : Value := .pointer (some ⟨p, 0, none⟩)

/-- The pipe at p, its items iv, its offers ov; all in blocks of S. -/
structure RepA (w : World) (S : Nat → Prop) (p : Nat) (iv ov : Value) (s : PS) : Prop where
  pb : Blk w p 62 #[nV s.room, iv, ov, .bool s.cl, .int .i64 s.sent]
  io : Own w 34 7 iv s.inn.length (ics s.inn)
  oo : Own w 64 8 ov s.ofs.length (ocs s.ofs)
  sp : S p
  si : ∀ k, iv.ownBlock = some k → S k
  so : ∀ k, ov.ownBlock = some k → S k
  lt : ∀ k, S k → k < w.heap.size
def Rep (w : World) (S : Nat → Prop) (p : Nat) (s : PS) : Prop := ∃ iv ov, RepA w S p iv ov s

section
variable {w w' : World} {S S' T : Nat → Prop} {p : Nat} {iv ov : Value} {s : PS}
theorem own_ne_blk {e t : TypeId} {sz n g : Nat} {v : Value} {xs : List Value} {cs : Array Value} (h : Own w e sz v n xs) (hb : Blk w g t cs) (hne : e ≠ t) : v.ownBlock ≠ some g := by
  intro hk
  rcases h.2 with ⟨rfl, _⟩ | ⟨g', off, cap, cur, rfl, hg, _⟩
  · simp [Value.ownBlock] at hk
  · have e1 : g' = g := by simpa [Value.ownBlock] using hk
    subst e1
    exact Blk.ne_ (t := _) (t' := _) hg hb hne rfl
theorem own_ne' {e1 e2 : TypeId} {s1 s2 n1 n2 : Nat} {v1 v2 : Value} {x1 x2 : List Value} (h1 : Own w e1 s1 v1 n1 x1) (h2 : Own w e2 s2 v2 n2 x2) (hne : e1 ≠ e2) :
    ∀ k, v1.ownBlock = some k → v2.ownBlock ≠ some k := by
  intro k hk hk2
  rcases h1.2 with ⟨rfl, _⟩ | ⟨g, off, cap, cur, rfl, hg, _⟩
  · simp [Value.ownBlock] at hk
  · have e1 : g = k := by simpa [Value.ownBlock] using hk
    subst e1
    exact own_ne_blk h2 (t := e1) (show Blk w g e1 cur from hg) (Ne.symm hne) hk2
theorem setCell_other {w : World} {a b : Addr} (h : a ≠ b) (v : Value) : (w.setCell a v).cell? b = w.cell? b := World.cell?_setCell_other w a b v h
theorem RepA.c0 (h : RepA w S p iv ov s) : w.cell? ⟨p, 0, none⟩ = some (.int .i64 (s.room : Int)) := by rw [h.pb.cell]; rfl
theorem RepA.c1 (h : RepA w S p iv ov s) : w.cell? ⟨p, 1, none⟩ = some iv := by rw [h.pb.cell]; rfl
theorem RepA.c2 (h : RepA w S p iv ov s) : w.cell? ⟨p, 2, none⟩ = some ov := by rw [h.pb.cell]; rfl
theorem RepA.c3 (h : RepA w S p iv ov s) : w.cell? ⟨p, 3, none⟩ = some (.bool s.cl) := by rw [h.pb.cell]; rfl
theorem RepA.c4 (h : RepA w S p iv ov s) : w.cell? ⟨p, 4, none⟩ = some (.int .i64 s.sent) := by rw [h.pb.cell]; rfl
theorem RepA.fp (h : RepA w S p iv ov s) (i : Nat) : w.frozen? ⟨p, i, none⟩ = false := h.pb.frozen i
/-- What lies elsewhere may change. -/
theorem RepA.frame (h : RepA w S p iv ov s) (hb : Only T w w') (hd : ∀ k, S k → ¬ T k) : RepA w' S p iv ov s :=
  ⟨h.pb.only hb (hd _ h.sp), h.io.only hb fun k hk => hd _ (h.si k hk), h.oo.only hb fun k hk => hd _ (h.so k hk), h.sp, h.si, h.so, fun k hk => Nat.lt_of_lt_of_le (h.lt k hk) hb.size⟩
theorem RepA.below (h : RepA w S p iv ov s) (hb : Below w.heap.size w w') : RepA w' S p iv ov s := h.frame (Only.of_below hb) fun k hk hh => by have := h.lt k hk; omega
theorem RepA.mono (h : RepA w S p iv ov s) (hs : ∀ k, S k → S' k) (hl : ∀ k, S' k → k < w.heap.size) : RepA w S' p iv ov s :=
  ⟨h.pb, h.io, h.oo, hs _ h.sp, fun k hk => hs _ (h.si k hk), fun k hk => hs _ (h.so k hk), hl⟩
theorem Rep.frame (h : Rep w S p s) (hb : Only T w w') (hd : ∀ k, S k → ¬ T k) : Rep w' S p s := by
  obtain ⟨iv, ov, h⟩ := h
  exact ⟨iv, ov, h.frame hb hd⟩
theorem Rep.below (h : Rep w S p s) (hb : Below w.heap.size w w') : Rep w' S p s := by
  obtain ⟨iv, ov, h⟩ := h
  exact ⟨iv, ov, h.below hb⟩
theorem Rep.lt (h : Rep w S p s) {k : Nat} (hk : S k) : k < w.heap.size := by
  obtain ⟨iv, ov, h⟩ := h
  exact h.lt k hk
/-- The items are laid down anew. -/
theorem RepA.setIn (h : RepA w S p iv ov s) (iv' : Value) (inn' : List It) (ho : Own w 34 7 iv' inn'.length (ics inn')) (hs : ∀ k, iv'.ownBlock = some k → S k) :
    RepA (w.setCell ⟨p, 1, none⟩ iv') S p iv' ov { s with inn := inn' } :=
  ⟨by simpa using h.pb.set_ 1 iv', ho.setCell (p := ⟨p, 1, none⟩) (own_ne_blk ho h.pb (by decide)) _, h.oo.setCell (p := ⟨p, 1, none⟩) (own_ne_blk h.oo h.pb (by decide)) _, h.sp, hs, h.so, fun k hk => by simpa [World.setCell] using h.lt k hk⟩
theorem RepA.setOf (h : RepA w S p iv ov s) (ov' : Value) (ofs' : List Of) (ho : Own w 64 8 ov' ofs'.length (ocs ofs')) (hs : ∀ k, ov'.ownBlock = some k → S k) :
    RepA (w.setCell ⟨p, 2, none⟩ ov') S p iv ov' { s with ofs := ofs' } :=
  ⟨by simpa using h.pb.set_ 2 ov', h.io.setCell (p := ⟨p, 2, none⟩) (own_ne_blk h.io h.pb (by decide)) _, ho.setCell (p := ⟨p, 2, none⟩) (own_ne_blk ho h.pb (by decide)) _, h.sp, h.si, hs, fun k hk => by simpa [World.setCell] using h.lt k hk⟩
theorem RepA.setCl (h : RepA w S p iv ov s) (c : Bool) : RepA (w.setCell ⟨p, 3, none⟩ (.bool c)) S p iv ov { s with cl := c } :=
  ⟨by simpa using h.pb.set_ 3 (.bool c), h.io.setCell (p := ⟨p, 3, none⟩) (own_ne_blk h.io h.pb (by decide)) _, h.oo.setCell (p := ⟨p, 3, none⟩) (own_ne_blk h.oo h.pb (by decide)) _, h.sp, h.si, h.so, fun k hk => by simpa [World.setCell] using h.lt k hk⟩
theorem RepA.setSent (h : RepA w S p iv ov s) (c : Int) : RepA (w.setCell ⟨p, 4, none⟩ (.int .i64 c)) S p iv ov { s with sent := c } :=
  ⟨by simpa using h.pb.set_ 4 (.int .i64 c), h.io.setCell (p := ⟨p, 4, none⟩) (own_ne_blk h.io h.pb (by decide)) _, h.oo.setCell (p := ⟨p, 4, none⟩) (own_ne_blk h.oo h.pb (by decide)) _, h.sp, h.si, h.so, fun k hk => by simpa [World.setCell] using h.lt k hk⟩
/-- A slice of its own has grown. -/
theorem RepA.growIn (h : RepA w S p iv ov s) (hg : w.grownBy w' iv.ownBlock) (iv' : Value) (inn' : List It) (ho : Own w' 34 7 iv' inn'.length (ics inn')) (hs : ∀ k, iv'.ownBlock = some k → S' k) (hS : ∀ k, S k → S' k) (hl : ∀ k, S' k → k < w'.heap.size) :
    RepA (w'.setCell ⟨p, 1, none⟩ iv') S' p iv' ov { s with inn := inn' } := by
  have hpb := h.pb.grown hg (fun e => own_ne_blk h.io h.pb (by decide) e.symm)
  have hoo : Own w' 64 8 ov s.ofs.length (ocs s.ofs) := h.oo.grown hg fun k hk e => own_ne' h.oo h.io (by decide) k hk e
  exact ⟨by simpa using hpb.set_ 1 iv', ho.setCell (p := ⟨p, 1, none⟩) (own_ne_blk ho hpb (by decide)) _, hoo.setCell (p := ⟨p, 1, none⟩) (own_ne_blk hoo hpb (by decide)) _, hS _ h.sp, hs, fun k hk => hS _ (h.so k hk), fun k hk => by simpa [World.setCell] using hl k hk⟩
theorem RepA.growOf (h : RepA w S p iv ov s) (hg : w.grownBy w' ov.ownBlock) (ov' : Value) (ofs' : List Of) (ho : Own w' 64 8 ov' ofs'.length (ocs ofs')) (hs : ∀ k, ov'.ownBlock = some k → S' k) (hS : ∀ k, S k → S' k) (hl : ∀ k, S' k → k < w'.heap.size) :
    RepA (w'.setCell ⟨p, 2, none⟩ ov') S' p iv ov' { s with ofs := ofs' } := by
  have hpb := h.pb.grown hg (fun e => own_ne_blk h.oo h.pb (by decide) e.symm)
  have hio : Own w' 34 7 iv s.inn.length (ics s.inn) := h.io.grown hg fun k hk e => own_ne' h.io h.oo (by decide) k hk e
  exact ⟨by simpa using hpb.set_ 2 ov', hio.setCell (p := ⟨p, 2, none⟩) (own_ne_blk hio hpb (by decide)) _, ho.setCell (p := ⟨p, 2, none⟩) (own_ne_blk ho hpb (by decide)) _, hS _ h.sp, fun k hk => hS _ (h.si k hk), hs, fun k hk => by simpa [World.setCell] using hl k hk⟩
end

/-- What a call has done: the pipe is s' then; it wrote into the pipe's own blocks alone. -/
def Went (w : World) (S : Nat → Prop) (p : Nat) (s' : PS) (w' : World) : Prop := Only S w w' ∧ Rep w' (fun k => S k ∨ (w.heap.size ≤ k ∧ k < w'.heap.size)) p s'
theorem Went.of {w w' : World} {S : Nat → Prop} {p : Nat} {iv ov : Value} {s' : PS} (ho : Only S w w') (h : RepA w' S p iv ov s') : Went w S p s' w' :=
  ⟨ho, iv, ov, h.mono (fun _ hk => .inl hk) fun k hk => by rcases hk with hk | hk; exact h.lt k hk; exact hk.2⟩
theorem Went.of_new {w w' : World} {S : Nat → Prop} {p : Nat} {iv ov : Value} {s' : PS} (ho : Only S w w') (h : RepA w' (fun k => S k ∨ (w.heap.size ≤ k ∧ k < w'.heap.size)) p iv ov s') : Went w S p s' w' :=
  ⟨ho, iv, ov, h⟩

def newS (n : Nat) : PS := ⟨n, [], [], false, 0⟩
set_option maxHeartbeats 1000000 in
theorem new_ok (n : Nat) (w : World) (h : n ≤ 64) : Calls Try.prog 8 #[.int .i64 (n : Int)] w fun e w' => e = .returned (.tuple #[pp w.heap.size, .int .i64 0]) ∧ Below w.heap.size w w' ∧ Rep w' (fun k => k = w.heap.size) w.heap.size (newS n) ∧ w'.heap.size = w.heap.size + 1 := by
  have i1 : ¬ (n : Int) < 0 := by omega
  have i2 : ¬ (64 : Int) < (n : Int) := by omega
  go_enter Try.func8, Try.ntmps8
  go_wp2
  go_ret2
  exact ⟨rfl, below_al (Below.refl _ _) _, ⟨_, _, ⟨Blk.new w _ _, Own.nil_ _ _ _, Own.nil_ _ _ _, rfl, by simp [Value.ownBlock], by simp [Value.ownBlock], fun k hk => by have hk : k = w.heap.size := hk; simp; omega⟩⟩, by simp⟩
set_option maxHeartbeats 1000000 in
theorem new_bad (n : Int) (w : World) (h : n < 0 ∨ 64 < n) : Calls Try.prog 8 #[.int .i64 n] w fun e w' => e = .returned (.tuple #[.pointer none, .int .i64 2]) ∧ w = w' := by
  by_cases i1 : n < 0
  · clear h
    go_enter Try.func8, Try.ntmps8
    go_wp2
    go_ret2
    exact ⟨rfl, rfl⟩
  · have i2 : 64 < n := by omega
    clear h
    go_enter Try.func8, Try.ntmps8
    go_wp2
    go_ret2
    exact ⟨rfl, rfl⟩
set_option maxHeartbeats 1000000 in
theorem sent_any {S : Nat → Prop} {p : Nat} {s : PS} (w : World) (hR : Rep w S p s) : Calls Try.prog 12 #[pp p] w fun e w' => e = .returned (.int .i64 s.sent) ∧ w = w' := by
  obtain ⟨iv, ov, h⟩ := hR
  have c4 := h.c4
  clear h
  unfold pp
  go_enter Try.func12, Try.ntmps12
  go_wp2
  go_ret
  exact ⟨rfl, rfl⟩
set_option maxHeartbeats 1000000 in
theorem closed_any {S : Nat → Prop} {p : Nat} {s : PS} (w : World) (hR : Rep w S p s) : Calls Try.prog 17 #[pp p] w fun e w' => e = .returned (.bool s.cl) ∧ w = w' := by
  obtain ⟨iv, ov, h⟩ := hR
  have c3 := h.c3
  clear h
  unfold pp
  go_enter Try.func17, Try.ntmps17
  go_wp2
  go_ret
  exact ⟨rfl, rfl⟩
def readyO (s : PS) : Bool := decide (0 < s.inn.length + s.ofs.length) || s.cl
set_option maxHeartbeats 1000000 in
theorem ready_any {S : Nat → Prop} {p : Nat} {s : PS} (w : World) (hR : Rep w S p s) (h1 : s.inn.length ≤ 1000000) (h2 : s.ofs.length ≤ 1000000) : Calls Try.prog 16 #[pp p] w fun e w' => e = .returned (.bool (readyO s)) ∧ ∃ q, w' = w.drewN q := by
  obtain ⟨iv, ov, h⟩ := hR
  have c1 := h.c1
  have c2 := h.c2
  have c3 := h.c3
  obtain ⟨A1, cp1, rfl, -, -⟩ := h.io.len_
  obtain ⟨A2, cp2, rfl, -, -⟩ := h.oo.len_
  clear h
  unfold pp readyO
  generalize s.inn.length = a at *
  generalize s.ofs.length = b at *
  generalize s.cl = c at *
  by_cases hz : 0 < a + b
  · have i1 : (0 : Int) < (a : Int) + (b : Int) := by omega
    rw [decide_eq_true hz, Bool.true_or]
    go_enter Try.func16, Try.ntmps16
    go_wp2_with fail
    go_quiet (fail)
    go_wp2
    go_ret
    exact ⟨rfl, _, rfl⟩
  · have i1 : ¬ (0 : Int) < (a : Int) + (b : Int) := by omega
    have i2 : decide ((0 : Int) < (a : Int) + (b : Int)) = false := decide_eq_false i1
    rw [decide_eq_false hz, Bool.false_or]
    clear hz i1
    go_enter Try.func16, Try.ntmps16
    go_wp2_with fail
    go_quiet (fail)
    go_wp2
    go_ret
    exact ⟨rfl, _, rfl⟩
def closeE (s : PS) : Int := if s.cl then 17 else if 0 < s.ofs.length then 18 else 0
def closeS (s : PS) : PS := if closeE s = 0 then { s with cl := true } else s
set_option maxHeartbeats 1000000 in
theorem close_any {S : Nat → Prop} {p : Nat} {s : PS} (w : World) (hR : Rep w S p s) : Calls Try.prog 15 #[pp p] w fun e w' => e = .returned (.int .i64 (closeE s)) ∧ Went w S p (closeS s) w' := by
  obtain ⟨iv, ov, h⟩ := hR
  have c2 := h.c2
  have c3 := h.c3
  have f3 := h.fp 3
  obtain ⟨A2, cp2, rfl, -, -⟩ := h.oo.len_
  have key0 : Hid (Went w S p s w) := Went.of (Only.refl _ _) h
  have key1 : Hid (Went w S p { s with cl := true } (w.setCell ⟨p, 3, none⟩ (.bool true))) := Went.of ((Only.refl S w).setCell (p := ⟨p, 3, none⟩) (fun _ => h.sp) _) (h.setCl true)
  clear h
  unfold closeS closeE pp
  by_cases hc : s.cl = true
  · rw [hc] at c3
    simp only [if_pos hc]
    go_enter Try.func15, Try.ntmps15
    go_wp2
    go_ret
    exact ⟨rfl, key0.out⟩
  · have hc' : s.cl = false := by simpa using hc
    rw [hc'] at c3
    simp only [if_neg hc]
    by_cases hz : 0 < s.ofs.length
    · have i1 : (0 : Int) < (s.ofs.length : Int) := by omega
      simp only [if_pos hz]
      generalize s.ofs.length = b at *
      go_enter Try.func15, Try.ntmps15
      go_wp2
      go_ret
      exact ⟨rfl, key0.out⟩
    · have i1 : ¬ (0 : Int) < (s.ofs.length : Int) := by omega
      simp only [if_neg hz]
      generalize s.ofs.length = b at *
      go_enter Try.func15, Try.ntmps15
      go_wp2
      go_ret
      exact ⟨rfl, key1.out⟩
end Go.Proofs.Ytfndppjicneliaa
