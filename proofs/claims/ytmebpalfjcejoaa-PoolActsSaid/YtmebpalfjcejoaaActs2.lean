/-
  The program's pool beside the document's ('TIn'), and what a call on one of them leaves; no condition beyond those that each theorem states.
-/
import Derived.Test.YtmebpalfjcejoaaRef3
import Derived.Test.YtmebpalfjcejoaaRef4
import Derived.Test.YtmebpalfjcejoaaActs
import Derived.Test.YtmebpalfjcejoaaParts0
namespace Go.Rb
theorem SideOut.early {ms : List Nat} {i : Nat} {b : Obj2} {W W' : World} (hi : i ≠ b.k) (he : (ms.getD b.k 0).testBit i = true) (h : b.pre W') : SideOut ms i b W W' := by
  unfold SideOut; rwa [if_neg hi, if_pos he]
theorem SideOut.late {ms : List Nat} {i : Nat} {b : Obj2} {W W' : World} (hi : i ≠ b.k) (hn : (ms.getD b.k 0).testBit i = false) (he : (ms.getD i 0).testBit b.k = true) (h : b.post W') : SideOut ms i b W W' := by
  unfold SideOut; rwa [if_neg hi, if_neg (by rw [hn]; simp), if_pos he]
end Go.Rb
namespace Go.Proofs.Ytmebpalfjcejoaa
open Go.RowKit Go.Rb

/-- Where the calls may write. -/
def Y (B : Nat) (X : Nat → Prop) : Nat → Prop := fun k => B ≤ k ∧ ¬ X k
/-- The program's pool at p and the document's at q lie apart, from block B on, and not in X. -/
def TIn (B : Nat) (X : Nat → Prop) (w : World) (p q : Nat) (sp sr : PS) : Prop :=
  B ≤ w.heap.size ∧ (∀ k, X k → k < w.heap.size) ∧ ∃ S T, Rep w S p sp ∧ RefR w T q sr ∧ (∀ k, S k → B ≤ k ∧ ¬ X k ∧ ¬ T k) ∧ (∀ k, T k → B ≤ k ∧ ¬ X k)

section
variable {B p q : Nat} {X X' U S T : Nat → Prop} {w w' : World} {sp sr sp' sr' : PS}
theorem Rep.frame (h : Rep w S p sp) (hb : Only U w w') (hd : ∀ k, S k → ¬ U k) : Rep w' S p sp := by
  obtain ⟨ga, lv, vs, h⟩ := h
  exact ⟨ga, lv, vs, h.frame hb hd⟩
theorem Rep.lt (h : Rep w S p sp) {k : Nat} (hk : S k) : k < w.heap.size := by
  obtain ⟨ga, lv, vs, h⟩ := h
  exact h.lt k hk
theorem RefR.frame (h : RefR w T q sr) (hb : Only U w w') (hd : ∀ k, T k → ¬ U k) : RefR w' T q sr := by
  obtain ⟨hv, bv, lv, h⟩ := h
  exact ⟨hv, bv, lv, h.frame hb hd⟩
theorem RefR.lt (h : RefR w T q sr) {k : Nat} (hk : T k) : k < w.heap.size := by
  obtain ⟨hv, bv, lv, h⟩ := h
  exact h.lt k hk
theorem TIn.frame (h : TIn B X w p q sp sr) (hb : Only U w w') (hU : ∀ k, U k → X k ∨ w.heap.size ≤ k) (hX' : ∀ k, X' k → (X k ∨ w.heap.size ≤ k) ∧ k < w'.heap.size) : TIn B X' w' p q sp sr := by
  obtain ⟨hB, hX, S, T, hR, hQ, hS, hT⟩ := h
  refine ⟨Nat.le_trans hB hb.size, fun k hk => (hX' k hk).2, S, T, hR.frame hb fun k hk hu => ?_, hQ.frame hb fun k hk hu => ?_, fun k hk => ⟨(hS k hk).1, fun hx => ?_, (hS k hk).2.2⟩, fun k hk => ⟨(hT k hk).1, fun hx => ?_⟩⟩
  · rcases hU k hu with h | h
    · exact (hS k hk).2.1 h
    · have := hR.lt hk; omega
  · rcases hU k hu with h | h
    · exact (hT k hk).2 h
    · have := hQ.lt hk; omega
  · rcases (hX' k hx).1 with h | h
    · exact (hS k hk).2.1 h
    · have := hR.lt hk; omega
  · rcases (hX' k hx).1 with h | h
    · exact (hT k hk).2 h
    · have := hQ.lt hk; omega
theorem TIn.below (h : TIn B X w p q sp sr) (hb : Below w.heap.size w w') : TIn B X w' p q sp sr :=
  h.frame (U := fun k => w.heap.size ≤ k) (Only.of_below hb) (fun _ hk => .inr hk) (fun k hk => ⟨.inl hk, Nat.lt_of_lt_of_le (h.2.1 k hk) hb.size⟩)
/-- The program's pool has been called. -/
theorem TIn.went {S T : Nat → Prop} (hB : B ≤ w.heap.size) (hX : ∀ k, X k → k < w.heap.size) (hQ : RefR w T q sr) (hS : ∀ k, S k → B ≤ k ∧ ¬ X k ∧ ¬ T k) (hT : ∀ k, T k → B ≤ k ∧ ¬ X k) (hw : Went w S p sp' w') :
    TIn B X w' p q sp' sr ∧ Only (Y B X) w w' := by
  obtain ⟨ho, hR⟩ := hw
  refine ⟨⟨Nat.le_trans hB ho.size, fun k hk => Nat.lt_of_lt_of_le (hX k hk) ho.size, _, T, hR, hQ.frame ho (fun k hk hs => (hS k hs).2.2 hk), fun k hk => ?_, hT⟩, ho.mono fun k _ hk => ⟨(hS k hk).1, (hS k hk).2.1⟩⟩
  rcases hk with hk | hk
  · exact hS k hk
  · exact ⟨by omega, fun hx => by have := hX k hx; omega, fun ht => by have := hQ.lt ht; omega⟩
theorem TIn.rwent {S T : Nat → Prop} (hB : B ≤ w.heap.size) (hX : ∀ k, X k → k < w.heap.size) (hR : Rep w S p sp) (hS : ∀ k, S k → B ≤ k ∧ ¬ X k ∧ ¬ T k) (hT : ∀ k, T k → B ≤ k ∧ ¬ X k) (hw : RWent w T q sr' w') :
    TIn B X w' p q sp sr' ∧ Only (Y B X) w w' := by
  obtain ⟨ho, hQ⟩ := hw
  refine ⟨⟨Nat.le_trans hB ho.size, fun k hk => Nat.lt_of_lt_of_le (hX k hk) ho.size, S, _, hR.frame ho (fun k hk ht => (hS k hk).2.2 ht), hQ, fun k hk => ⟨(hS k hk).1, (hS k hk).2.1, fun ht => ?_⟩, fun k hk => ?_⟩, ho.mono fun k _ hk => hT k hk⟩
  · rcases ht with ht | ht
    · exact (hS k hk).2.2 ht
    · have := hR.lt hk; omega
  · rcases hk with hk | hk
    · exact hT k hk
    · exact ⟨by omega, fun hx => by have := hX k hx; omega⟩
theorem TIn.pcall {f : FuncId} {args : Array Value} {e0 : Ending} (h : TIn B X w p q sp sr) (hc : ∀ S, Rep w S p sp → Calls Try.prog f args w fun e w' => e = e0 ∧ Went w S p sp' w') :
    Calls Try.prog f args w fun e w' => e = e0 ∧ TIn B X w' p q sp' sr ∧ Only (Y B X) w w' := by
  obtain ⟨hB, hX, S, T, hR, hQ, hS, hT⟩ := h
  exact (hc S hR).mono fun e w' ⟨h1, h2⟩ => ⟨h1, TIn.went hB hX hQ hS hT h2⟩
theorem TIn.rcall {f : FuncId} {args : Array Value} {e0 : Ending} (h : TIn B X w p q sp sr) (hc : ∀ T, RefR w T q sr → Calls Try.prog f args w fun e w' => e = e0 ∧ RWent w T q sr' w') :
    Calls Try.prog f args w fun e w' => e = e0 ∧ TIn B X w' p q sp sr' ∧ Only (Y B X) w w' := by
  obtain ⟨hB, hX, S, T, hR, hQ, hS, hT⟩ := h
  exact (hc T hQ).mono fun e w' ⟨h1, h2⟩ => ⟨h1, TIn.rwent hB hX hR hS hT h2⟩
theorem TIn.rep (h : TIn B X w p q sp sr) : ∃ S, Rep w S p sp := by obtain ⟨-, -, S, T, hR, -⟩ := h; exact ⟨S, hR⟩
theorem TIn.ref (h : TIn B X w p q sp sr) : ∃ T, RefR w T q sr := by obtain ⟨-, -, S, T, -, hQ, -⟩ := h; exact ⟨T, hQ⟩
theorem Y.below (hb : Only (Y B X) w w') (hB : B ≤ w.heap.size) : Below B w w' := hb.below hB fun _ hk => hk.1
end

/-- The copy of an act. -/
structure ActC (w : World) (g : Nat) (x : ActD) (Ab : Option Addr) (cb : Nat) : Prop where
  lt : g < w.heap.size
  c0 : w.cell? ⟨g, 0, none⟩ = some (.int .i64 x.k)
  c1 : w.cell? ⟨g, 1, none⟩ = some (.int .i64 x.i)
  c2 : w.cell? ⟨g, 2, none⟩ = some (.int .i64 x.f)
  c3 : w.cell? ⟨g, 3, none⟩ = some (.int .i64 x.t)
  c4 : w.cell? ⟨g, 4, none⟩ = some (.slice Ab x.b.length cb)
theorem ActC.new (w : World) (x : ActD) (Ab : Option Addr) (cb : Nat) : ActC (w.alloc (.cells #[.int .i64 x.k, .int .i64 x.i, .int .i64 x.f, .int .i64 x.t, .slice Ab x.b.length cb] 42)) w.heap.size x Ab cb :=
  ⟨by simp, by rw [World.cell?_alloc_mark]; rfl, by rw [World.cell?_alloc_mark]; rfl, by rw [World.cell?_alloc_mark]; rfl, by rw [World.cell?_alloc_mark]; rfl, by rw [World.cell?_alloc_mark]; rfl⟩
theorem ActC.only {w w' : World} {g cb : Nat} {x : ActD} {Ab : Option Addr} {U : Nat → Prop} (h : ActC w g x Ab cb) (hb : Only U w w') (hU : ¬ U g) : ActC w' g x Ab cb :=
  ⟨Nat.lt_of_lt_of_le h.lt hb.size, (hb.cell (p := ⟨g, 0, none⟩) h.lt hU).trans h.c0, (hb.cell (p := ⟨g, 1, none⟩) h.lt hU).trans h.c1, (hb.cell (p := ⟨g, 2, none⟩) h.lt hU).trans h.c2, (hb.cell (p := ⟨g, 3, none⟩) h.lt hU).trans h.c3, (hb.cell (p := ⟨g, 4, none⟩) h.lt hU).trans h.c4⟩
theorem ActC.below {w w' : World} {g cb : Nat} {x : ActD} {Ab : Option Addr} (h : ActC w g x Ab cb) (hb : Below w.heap.size w w') : ActC w' g x Ab cb :=
  h.only (Only.of_below hb) (by have := h.lt; omega)

section
variable {B p q : Nat} {X S0 T0 : Nat → Prop} {w w' : World} {s s' : PS}
/-- In a region: the program's pool is called first. -/
def AfterP (B : Nat) (X T0 : Nat → Prop) (p : Nat) (s' : PS) (w : World) : Prop := ∃ S, Rep w S p s' ∧ ∀ k, S k → B ≤ k ∧ ¬ X k ∧ ¬ T0 k
theorem obj_p (hB : B ≤ w.heap.size) (hX : ∀ k, X k → k < w.heap.size) (hQ : RefR w T0 q s) (hS : ∀ k, S0 k → B ≤ k ∧ ¬ X k ∧ ¬ T0 k) (hw : Went w S0 p s' w') :
    AfterP B X T0 p s' w' ∧ RefR w' T0 q s ∧ Only (Y B X) w w' := by
  obtain ⟨ho, hR⟩ := hw
  refine ⟨⟨_, hR, fun k hk => ?_⟩, hQ.frame ho (fun k hk hs => (hS k hs).2.2 hk), ho.mono fun k _ hk => ⟨(hS k hk).1, (hS k hk).2.1⟩⟩
  rcases hk with hk | hk
  · exact hS k hk
  · exact ⟨by omega, fun hx => by have := hX k hx; omega, fun ht => by have := hQ.lt ht; omega⟩
theorem obj_r (hB : B ≤ w.heap.size) (hX : ∀ k, X k → k < w.heap.size) (hP : AfterP B X T0 p s' w) (hT : ∀ k, T0 k → B ≤ k ∧ ¬ X k) (hw : RWent w T0 q s' w') :
    TIn B X w' p q s' s' ∧ AfterP B X T0 p s' w' ∧ Only (Y B X) w w' := by
  obtain ⟨S, hR, hS⟩ := hP
  obtain ⟨h1, h2⟩ := TIn.rwent hB hX hR hS hT hw
  exact ⟨h1, ⟨S, hR.frame hw.1 (fun k hk ht => (hS k hk).2.2 ht), hS⟩, h2⟩
end
end Go.Proofs.Ytmebpalfjcejoaa
