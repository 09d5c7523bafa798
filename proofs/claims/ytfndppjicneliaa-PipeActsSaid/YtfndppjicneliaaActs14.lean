/-
  The program's pipe beside the document's ('TIn'), and what a call on one of them leaves; no condition beyond those that each theorem states.
-/
import Derived.Test.YtfndppjicneliaaActsT14
import Derived.Test.YtfndppjicneliaaRegion2
namespace Go.Rb
theorem SideOut.early {ms : List Nat} {i : Nat} {b : Obj2} {W W' : World} (hi : i ≠ b.k) (he : (ms.getD b.k 0).testBit i = true) (h : b.pre W') : SideOut ms i b W W' := by
  unfold SideOut; rwa [if_neg hi, if_pos he]
theorem SideOut.late {ms : List Nat} {i : Nat} {b : Obj2} {W W' : World} (hi : i ≠ b.k) (hn : (ms.getD b.k 0).testBit i = false) (he : (ms.getD i 0).testBit b.k = true) (h : b.post W') : SideOut ms i b W W' := by
  unfold SideOut; rwa [if_neg hi, if_neg (by rw [hn]; simp), if_pos he]
end Go.Rb
namespace Go.Proofs.Ytfndppjicneliaa
open Go.RowKit Go.Rb
attribute [local irreducible] Go.wpQuiet

def NoT : Nat → Prop := fun _ => False
/-- What the document's pipe holds. -/
structure DS where
  L : List Of
  c : Bool
  n : Int
def gs (r : Nat) (d : DS) : PS := GS r d.L d.c d.n
def RD (w : World) (T : Nat → Prop) (q r : Nat) (d : DS) : Prop := RR w T q r d.L d.c d.n
def RDW (w : World) (T : Nat → Prop) (q r : Nat) (d : DS) (w' : World) : Prop := RWent w T q r d.L d.c d.n w'
/-- Where the calls may write. -/
def Y (B : Nat) (X : Nat → Prop) : Nat → Prop := fun k => B ≤ k ∧ ¬ X k
/-- The program's pipe at p and the document's at q lie apart, from block B on, and not in X. -/
def TIn (B : Nat) (X : Nat → Prop) (w : World) (p q r : Nat) (sp sr : DS) : Prop :=
  B ≤ w.heap.size ∧ (∀ k, X k → k < w.heap.size) ∧ ∃ S T, Rep w S p (gs r sp) ∧ RD w T q r sr ∧ (∀ k, S k → B ≤ k ∧ ¬ X k ∧ ¬ T k) ∧ (∀ k, T k → B ≤ k ∧ ¬ X k)

section
variable {B p q r : Nat} {X X' U S T : Nat → Prop} {w w' : World} {sp sr sp' sr' : DS}
theorem RD.frame (h : RD w T q r sr) (hb : Only U w w') (hd : ∀ k, T k → ¬ U k) : RD w' T q r sr := by
  obtain ⟨lv, h⟩ := h
  exact ⟨lv, h.frame hb hd⟩
theorem RD.lt (h : RD w T q r sr) {k : Nat} (hk : T k) : k < w.heap.size := by
  obtain ⟨lv, h⟩ := h
  exact h.lt k hk
theorem TIn.frame (h : TIn B X w p q r sp sr) (hb : Only U w w') (hU : ∀ k, U k → X k ∨ w.heap.size ≤ k) (hX' : ∀ k, X' k → (X k ∨ w.heap.size ≤ k) ∧ k < w'.heap.size) : TIn B X' w' p q r sp sr := by
  obtain ⟨hB, hX, S, T, hR, hQ, hS, hT⟩ := h
  refine ⟨Nat.le_trans hB hb.size, fun k hk => (hX' k hk).2, S, T, hR.frame hb fun k hk hu => ?_, hQ.frame hb fun k hk hu => ?_, fun k hk => ⟨(hS k hk).1, fun hx => ?_, (hS k hk).2.2⟩, fun k hk => ⟨(hT k hk).1, fun hx => ?_⟩⟩
  · rcases hU k hu with h | h
    · exact (hS k hk).2.1 h
    · have := hR.lt hk; omega
  · rcases hU k hu with h | h
    · exact (hT k hk).2 h
    · have := hQ.lt hk; omega
  · rcases (hX' k hx).1 with h | h
    · exact (hS k hk).2.1 h
    · have := hR.lt hk; omega
  · rcases (hX' k hx).1 with h | h
    · exact (hT k hk).2 h
    · have := hQ.lt hk; omega
theorem TIn.below (h : TIn B X w p q r sp sr) (hb : Below w.heap.size w w') : TIn B X w' p q r sp sr :=
  h.frame (U := fun k => w.heap.size ≤ k) (Only.of_below hb) (fun _ hk => .inr hk) (fun k hk => ⟨.inl hk, Nat.lt_of_lt_of_le (h.2.1 k hk) hb.size⟩)
theorem TIn.al (h : TIn B X w p q r sp sr) (o : Obj) (hX' : ∀ k, X' k → X k ∨ k = w.heap.size) : TIn B X' (w.alloc o) p q r sp sr :=
  h.frame (U := fun k => w.heap.size ≤ k) ((Only.refl _ w).alloc _) (fun k hk => .inr hk) (fun k hk => by
    rcases hX' k hk with h1 | h1
    · exact ⟨.inl h1, by have := h.2.1 k h1; simp; omega⟩
    · exact ⟨.inr (by omega), by subst h1; simp⟩)
/-- The program's pipe has been called. -/
theorem TIn.went {S T : Nat → Prop} (hB : B ≤ w.heap.size) (hX : ∀ k, X k → k < w.heap.size) (hQ : RD w T q r sr) (hS : ∀ k, S k → B ≤ k ∧ ¬ X k ∧ ¬ T k) (hT : ∀ k, T k → B ≤ k ∧ ¬ X k) (hw : Went w S p (gs r sp') w') :
    TIn B X w' p q r sp' sr ∧ Only (Y B X) w w' := by
  obtain ⟨ho, hR⟩ := hw
  refine ⟨⟨Nat.le_trans hB ho.size, fun k hk => Nat.lt_of_lt_of_le (hX k hk) ho.size, _, T, hR, hQ.frame ho (fun k hk hs => (hS k hs).2.2 hk), fun k hk => ?_, hT⟩, ho.mono fun k _ hk => ⟨(hS k hk).1, (hS k hk).2.1⟩⟩
  rcases hk with hk | hk
  · exact hS k hk
  · exact ⟨by omega, fun hx => by have := hX k hx; omega, fun ht => by have := hQ.lt ht; omega⟩
theorem TIn.rwent {S T : Nat → Prop} (hB : B ≤ w.heap.size) (hX : ∀ k, X k → k < w.heap.size) (hR : Rep w S p (gs r sp)) (hS : ∀ k, S k → B ≤ k ∧ ¬ X k ∧ ¬ T k) (hT : ∀ k, T k → B ≤ k ∧ ¬ X k) (hw : RDW w T q r sr' w') :
    TIn B X w' p q r sp sr' ∧ Only (Y B X) w w' := by
  obtain ⟨ho, hQ⟩ := hw
  refine ⟨⟨Nat.le_trans hB ho.size, fun k hk => Nat.lt_of_lt_of_le (hX k hk) ho.size, S, _, hR.frame ho (fun k hk ht => (hS k hk).2.2 ht), hQ, fun k hk => ⟨(hS k hk).1, (hS k hk).2.1, fun ht => ?_⟩, fun k hk => ?_⟩, ho.mono fun k _ hk => hT k hk⟩
  · rcases ht with ht | ht
    · exact (hS k hk).2.2 ht
    · have := hR.lt hk; omega
  · rcases hk with hk | hk
    · exact hT k hk
    · exact ⟨by omega, fun hx => by have := hX k hx; omega⟩
theorem TIn.pcall {f : FuncId} {args : Array Value} {e0 : Ending} (h : TIn B X w p q r sp sr) (hc : ∀ S, Rep w S p (gs r sp) → Calls Try.prog f args w fun e w' => e = e0 ∧ Went w S p (gs r sp') w') :
    Calls Try.prog f args w fun e w' => e = e0 ∧ TIn B X w' p q r sp' sr ∧ Only (Y B X) w w' := by
  obtain ⟨hB, hX, S, T, hR, hQ, hS, hT⟩ := h
  exact (hc S hR).mono fun e w' ⟨h1, h2⟩ => ⟨h1, TIn.went hB hX hQ hS hT h2⟩
theorem TIn.rcall {f : FuncId} {args : Array Value} {e0 : Ending} (h : TIn B X w p q r sp sr) (hc : ∀ T, RD w T q r sr → Calls Try.prog f args w fun e w' => e = e0 ∧ RDW w T q r sr' w') :
    Calls Try.prog f args w fun e w' => e = e0 ∧ TIn B X w' p q r sp sr' ∧ Only (Y B X) w w' := by
  obtain ⟨hB, hX, S, T, hR, hQ, hS, hT⟩ := h
  exact (hc T hQ).mono fun e w' ⟨h1, h2⟩ => ⟨h1, TIn.rwent hB hX hR hS hT h2⟩
theorem TIn.rep (h : TIn B X w p q r sp sr) : ∃ S, Rep w S p (gs r sp) := by obtain ⟨-, -, S, T, hR, -⟩ := h; exact ⟨S, hR⟩
theorem TIn.ref (h : TIn B X w p q r sp sr) : ∃ T, RD w T q r sr := by obtain ⟨-, -, S, T, -, hQ, -⟩ := h; exact ⟨T, hQ⟩
theorem Y.below (hb : Only (Y B X) w w') (hB : B ≤ w.heap.size) : Below B w w' := hb.below hB fun _ hk => hk.1
end

/-- The copy of an act. -/
structure ActC (w : World) (g : Nat) (a : ActD) : Prop where
  lt : g < w.heap.size
  c0 : w.cell? ⟨g, 0, none⟩ = some (.int .i64 a.k)
  c1 : w.cell? ⟨g, 1, none⟩ = some (.int .i64 a.who)
  c2 : w.cell? ⟨g, 2, none⟩ = some (.int .i64 a.x.n)
  c3 : w.cell? ⟨g, 3, none⟩ = some (.int .i64 a.x.buf)
  c4 : w.cell? ⟨g, 4, none⟩ = some (.int .i64 a.x.rn)
  c5 : w.cell? ⟨g, 5, none⟩ = some (.int .i64 a.x.ra)
  c6 : w.cell? ⟨g, 6, none⟩ = some (.string a.x.rt)
  c7 : w.cell? ⟨g, 7, none⟩ = some (.slice a.x.ha a.x.hn a.x.hc)
  c8 : w.cell? ⟨g, 8, none⟩ = some (.int .i64 a.x.err)
def actO (a : ActD) : Obj := .cells #[.int .i64 a.k, .int .i64 a.who, .int .i64 a.x.n, .int .i64 a.x.buf, .int .i64 a.x.rn, .int .i64 a.x.ra, .string a.x.rt, .slice a.x.ha a.x.hn a.x.hc, .int .i64 a.x.err] 51
theorem ActC.new (w : World) (a : ActD) : ActC (w.alloc (actO a)) w.heap.size a := by
  unfold actO
  exact ⟨by simp, by rw [World.cell?_alloc_mark]; rfl, by rw [World.cell?_alloc_mark]; rfl, by rw [World.cell?_alloc_mark]; rfl, by rw [World.cell?_alloc_mark]; rfl, by rw [World.cell?_alloc_mark]; rfl, by rw [World.cell?_alloc_mark]; rfl, by rw [World.cell?_alloc_mark]; rfl, by rw [World.cell?_alloc_mark]; rfl, by rw [World.cell?_alloc_mark]; rfl⟩
theorem ActC.only {w w' : World} {g : Nat} {x : ActD} {U : Nat → Prop} (h : ActC w g x) (hb : Only U w w') (hU : ¬ U g) : ActC w' g x :=
  ⟨Nat.lt_of_lt_of_le h.lt hb.size, (hb.cell (p := ⟨g, 0, none⟩) h.lt hU).trans h.c0, (hb.cell (p := ⟨g, 1, none⟩) h.lt hU).trans h.c1, (hb.cell (p := ⟨g, 2, none⟩) h.lt hU).trans h.c2, (hb.cell (p := ⟨g, 3, none⟩) h.lt hU).trans h.c3, (hb.cell (p := ⟨g, 4, none⟩) h.lt hU).trans h.c4,
    (hb.cell (p := ⟨g, 5, none⟩) h.lt hU).trans h.c5, (hb.cell (p := ⟨g, 6, none⟩) h.lt hU).trans h.c6, (hb.cell (p := ⟨g, 7, none⟩) h.lt hU).trans h.c7, (hb.cell (p := ⟨g, 8, none⟩) h.lt hU).trans h.c8⟩
theorem ActC.below {w w' : World} {g : Nat} {x : ActD} (h : ActC w g x) (hb : Below w.heap.size w w') : ActC w' g x :=
  h.only (Only.of_below hb) (by have := h.lt; omega)

section
variable {B p q r : Nat} {X S0 T0 : Nat → Prop} {w w' : World} {s s' : DS}
/-- In a region: the program's pipe is called first. -/
def AfterP (B : Nat) (X T0 : Nat → Prop) (p r : Nat) (s' : DS) (w : World) : Prop := ∃ S, Rep w S p (gs r s') ∧ ∀ k, S k → B ≤ k ∧ ¬ X k ∧ ¬ T0 k
theorem obj_p (hB : B ≤ w.heap.size) (hX : ∀ k, X k → k < w.heap.size) (hQ : RD w T0 q r s) (hS : ∀ k, S0 k → B ≤ k ∧ ¬ X k ∧ ¬ T0 k) (hw : Went w S0 p (gs r s') w') :
    AfterP B X T0 p r s' w' ∧ RD w' T0 q r s ∧ Only (Y B X) w w' := by
  obtain ⟨ho, hR⟩ := hw
  refine ⟨⟨_, hR, fun k hk => ?_⟩, hQ.frame ho (fun k hk hs => (hS k hs).2.2 hk), ho.mono fun k _ hk => ⟨(hS k hk).1, (hS k hk).2.1⟩⟩
  rcases hk with hk | hk
  · exact hS k hk
  · exact ⟨by omega, fun hx => by have := hX k hx; omega, fun ht => by have := hQ.lt ht; omega⟩
theorem obj_r (hB : B ≤ w.heap.size) (hX : ∀ k, X k → k < w.heap.size) (hP : AfterP B X T0 p r s' w) (hT : ∀ k, T0 k → B ≤ k ∧ ¬ X k) (hw : RDW w T0 q r s' w') :
    TIn B X w' p q r s' s' ∧ AfterP B X T0 p r s' w' ∧ Only (Y B X) w w' := by
  obtain ⟨S, hR, hS⟩ := hP
  obtain ⟨h1, h2⟩ := TIn.rwent hB hX hR hS hT hw
  exact ⟨h1, ⟨S, hR.frame hw.1 (fun k hk ht => (hS k hk).2.2 ht), hS⟩, h2⟩
end

/-! ### What each act makes of it -/
def sendD (r : Nat) (d : DS) (who : Int) (x : It) : DS := ⟨sendL r d.L d.c d.n who x, d.c, sendN r d.L d.c d.n who⟩
def takeD (d : DS) : DS := ⟨d.L.tail, d.c, d.n⟩
def wdD (r : Nat) (d : DS) (who : Int) : DS := ⟨wdL r d.L who, d.c, wdN r d.L d.n who⟩
def closeD (r : Nat) (d : DS) : DS := ⟨d.L, d.c || decide (d.L.length ≤ r), d.n⟩
theorem gs_sendD (r : Nat) (d : DS) (who : Int) (x : It) : sendS (gs r d) who x = gs r (sendD r d who x) := gs_sendS ..
theorem gs_wdD (r : Nat) (d : DS) (who : Int) : wdS (gs r d) who = gs r (wdD r d who) := gs_wdS ..
theorem gs_takeD (r : Nat) (d : DS) : takeS (gs r d) = gs r (takeD d) := by
  obtain ⟨L, c, n⟩ := d
  cases L with
  | nil => exact (gs_none r c n).2.2
  | cons y t => exact (gs_take r y t c n).2.2
theorem gs_closeD (r : Nat) (d : DS) : closeS (gs r d) = gs r (closeD r d) := by
  obtain ⟨L, c, n⟩ := d
  unfold closeS gs
  simp only [gs_close, closeD]
  cases c with
  | true => simp
  | false =>
    by_cases h : r < L.length
    · rw [if_neg (by simp [h]), decide_eq_false (by omega)]; rfl
    · rw [if_pos (by simp [h]), decide_eq_true (by omega)]; rfl
/-- What holds ahead of act j. -/
structure PInv (w0 : World) (j : Nat) (d : DS) : Prop where
  len : d.L.length ≤ j
  lo : -(j : Int) ≤ d.n
  hi : d.n ≤ (j : Int)
  ok : ∀ o ∈ d.L, hOK w0 w0.heap.size o.2
section
variable {w0 : World} {j r : Nat} {d : DS}
theorem PInv.init (w0 : World) : PInv w0 0 ⟨[], false, 0⟩ := ⟨by simp, by simp, by simp, by simp⟩
theorem PInv.more (h : PInv w0 j d) : PInv w0 (j + 1) d := ⟨by have := h.len; omega, by have := h.lo; omega, by have := h.hi; omega, h.ok⟩
theorem PInv.take_ (h : PInv w0 j d) : PInv w0 (j + 1) (takeD d) := ⟨by have := h.len; simp [takeD]; omega, by have := h.lo; simp [takeD]; omega, by have := h.hi; simp [takeD]; omega, fun o ho => h.ok o (List.mem_of_mem_tail ho)⟩
theorem PInv.close_ (h : PInv w0 j d) : PInv w0 (j + 1) (closeD r d) := ⟨by have := h.len; simp [closeD]; omega, by have := h.lo; simp [closeD]; omega, by have := h.hi; simp [closeD]; omega, h.ok⟩
theorem PInv.send_ (h : PInv w0 j d) (who : Int) (x : It) (hx : hOK w0 w0.heap.size x) : PInv w0 (j + 1) (sendD r d who x) := by
  have h1 := h.len
  have h2 := h.lo
  have h3 := h.hi
  unfold sendD sendL sendN
  split
  · exact ⟨by simp only; omega, by simp only; omega, by simp only; omega, h.ok⟩
  · split
    · exact ⟨by simp only; omega, by simp only; omega, by simp only; omega, h.ok⟩
    · refine ⟨by simp only [List.length_append, List.length_cons, List.length_nil]; omega, by simp only; omega, by simp only; omega, fun o ho => ?_⟩
      simp only [List.mem_append, List.mem_singleton] at ho
      rcases ho with ho | rfl
      · exact h.ok o ho
      · exact hx
theorem PInv.wd_ (h : PInv w0 j d) (who : Int) : PInv w0 (j + 1) (wdD r d who) := by
  have h1 := h.len
  have h2 := h.lo
  have h3 := h.hi
  unfold wdD wdL wdN
  split
  · refine ⟨?_, by simp only; omega, by simp only; omega, fun o ho => h.ok o (List.mem_of_mem_eraseIdx ho)⟩
    simp only
    exact Nat.le_trans (List.length_eraseIdx_le _ _) (by omega)
  · exact ⟨by simp only; omega, by simp only; omega, by simp only; omega, h.ok⟩
theorem PInv.takeX_ (h : PInv w0 j d) : hOK w0 w0.heap.size (takeX (gs r d)) := by
  obtain ⟨L, c, n⟩ := d
  cases L with
  | nil => rw [show takeX (gs r ⟨[], c, n⟩) = It0 from (gs_none r c n).1]; exact hOK0 _ _
  | cons y t => rw [show takeX (gs r ⟨y :: t, c, n⟩) = y.2 from (gs_take r y t c n).1]; exact h.ok y (by simp)
theorem PInv.lens (h : PInv w0 j d) (hj : j ≤ 100) : (gs r d).inn.length ≤ 1000000 ∧ (gs r d).ofs.length ≤ 1000000 ∧ d.L.length ≤ 1000000 ∧ (-1000000 ≤ (gs r d).sent ∧ (gs r d).sent ≤ 1000000) ∧ (-1000000 ≤ d.n ∧ d.n ≤ 1000000) := by
  have h1 := h.len
  have h2 := h.lo
  have h3 := h.hi
  have h4 : (gs r d).inn.length = min r d.L.length := gs_inn ..
  have h5 : (gs r d).ofs.length = d.L.length - r := gs_ofs ..
  have h6 : (gs r d).sent = d.n := rfl
  rw [h4, h5, h6]
  omega
end
/-! ### The calls, on both -/
section
variable {B p q r : Nat} {X : Nat → Prop} {w w0 : World} {s s2 : DS} {j : Nat}
theorem c_send (h : TIn B X w p q r s s2) (hi : PInv w0 j s) (hj : j ≤ 100) (who : Int) (x : It) :
    Calls Try.prog 9 #[pp p, .int .i64 who, x.v] w fun e w' => e = .returned (.tuple #[.bool (sendV (gs r s) who), .int .i64 (sendE (gs r s) who)]) ∧ TIn B X w' p q r (sendD r s who x) s2 ∧ Only (Y B X) w w' := by
  obtain ⟨h1, h2, -, h3, -⟩ := hi.lens (r := r) hj
  exact h.pcall fun S hR => by rw [← gs_sendD]; exact send_any who x w hR h1 h2 h3
theorem c_rsend (h : TIn B X w p q r s2 s) (hi : PInv w0 j s) (hj : j ≤ 100) (hr : r ≤ 64) (who : Int) (x : It) :
    Calls Try.prog 18 #[pp q, .int .i64 who, x.v] w fun e w' => e = .returned (.tuple #[.bool (sendV (gs r s) who), .int .i64 (sendE (gs r s) who)]) ∧ TIn B X w' p q r s2 (sendD r s who x) ∧ Only (Y B X) w w' := by
  obtain ⟨-, -, h1, -, h3⟩ := hi.lens (r := r) hj
  exact h.rcall fun T hR => rsendAll_any who x w hR h1 (by omega) h3
theorem c_take (h : TIn B X w p q r s s2) (hi : PInv w0 j s) (hj : j ≤ 100) :
    Calls Try.prog 10 #[pp p] w fun e w' => e = .returned (.tuple #[(takeX (gs r s)).v, .int .i64 (takeE (gs r s))]) ∧ TIn B X w' p q r (takeD s) s2 ∧ Only (Y B X) w w' := by
  obtain ⟨h1, h2, -, h3, -⟩ := hi.lens (r := r) hj
  exact h.pcall fun S hR => by rw [← gs_takeD]; exact take_any w hR h1
theorem c_rtake (h : TIn B X w p q r s2 s) :
    Calls Try.prog 19 #[pp q] w fun e w' => e = .returned (.tuple #[(takeX (gs r s)).v, .int .i64 (takeE (gs r s))]) ∧ TIn B X w' p q r s2 (takeD s) ∧ Only (Y B X) w w' :=
  h.rcall fun T hR => rtake_any w hR
theorem c_close (h : TIn B X w p q r s s2) :
    Calls Try.prog 15 #[pp p] w fun e w' => e = .returned (.int .i64 (closeE (gs r s))) ∧ TIn B X w' p q r (closeD r s) s2 ∧ Only (Y B X) w w' :=
  h.pcall fun S hR => by rw [← gs_closeD]; exact close_any w hR
theorem c_rclose (h : TIn B X w p q r s2 s) :
    Calls Try.prog 22 #[pp q] w fun e w' => e = .returned (.int .i64 (closeE (gs r s))) ∧ TIn B X w' p q r s2 (closeD r s) ∧ Only (Y B X) w w' :=
  h.rcall fun T hR => rclose_any w hR
theorem c_items (h : TIn B X w p q r s s2) (hi : PInv w0 j s) (hj : j ≤ 100) :
    Calls Try.prog 11 #[pp p] w fun e w' => ∃ v, e = .returned v ∧ Own w' 34 7 v s.L.length (ics (s.L.map Prod.snd)) ∧ (∀ k, v.ownBlock = some k → w.heap.size ≤ k) ∧ Below w.heap.size w w' := by
  obtain ⟨h1, h2, -⟩ := hi.lens (r := r) hj
  obtain ⟨S, hR⟩ := h.rep
  refine (items_any w hR h1 h2).mono ?_
  rintro e w' ⟨v, he, ho, hb, hk⟩
  have e1 : (gs r s).inn.length + (gs r s).ofs.length = s.L.length := gs_sum ..
  have e2 : itemsO (gs r s) = s.L.map Prod.snd := gs_items ..
  rw [e1, e2] at ho
  exact ⟨v, he, ho, hk, hb⟩
end
end Go.Proofs.Ytfndppjicneliaa
