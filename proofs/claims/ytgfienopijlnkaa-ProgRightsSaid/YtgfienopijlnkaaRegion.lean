/-
  A rule for regions that draw their order: each operation is walked once, from whatever state its predecessors may have left ('region_rg'); no condition beyond those that each theorem states.
-/
import Derived.Test.YtgfienopijlnkaaBase
namespace Go.Rb
open Go.RowKit

def dstOf (l : List Oper) (i : Nat) : Option Tmp := (l[i]?).bind (·.dst)
/-- Does the operation wait for number j? -/
def waitsFor (o : Oper) (j : Nat) : Bool := o.after.any fun e => Region.binds .any e && e.on == j
/-- Slot t is not written by the region. -/
def unwritten (l : List Oper) (t : Nat) : Bool := l.all fun o => o.dst != some t
/-- Each operation waits for earlier ones alone; no two write one slot; each slot lies in the frame. -/
def lexOk (l : List Oper) (n : Nat) : Bool :=
  ((List.range l.length).all fun i => match l[i]? with | some o => o.after.all (fun e => !Region.binds .any e || decide (e.on < i)) && (match o.dst with | some d => decide (d < n) | none => true) | none => true) &&
  (List.range l.length).all fun i => (List.range l.length).all fun j => i == j || (match dstOf l i, dstOf l j with | some d, some d' => d != d' | _, _ => true)

def setAll (vs : Nat → Value) : Nat → List Oper → Array Value → Array Value
  | _, [], t => t
  | i, o :: rest, t => setAll vs (i + 1) rest (match o.dst with | some d => t.setIfInBounds d (vs i) | none => t)

section
variable (P : Program) (l : List Oper) (Q : Exit → Act → World → Prop) (R : World → World → Prop) (F : Nat → Value → World → Prop) (a0 : Act) (w0 : World)

/-- One operation: from whatever state it may meet. -/
def RGStep (i : Nat) (o : Oper) : Prop :=
  ∀ a W, R w0 W → (∀ t v, unwritten l t = true → a0.tmps[t]? = some v → a.tmps[t]? = some v ∧ a.tmps.getD t undef = v) →
    (∀ j d, waitsFor o j = true → dstOf l j = some d → ∃ v, a.tmps[d]? = some v ∧ a.tmps.getD d undef = v ∧ F j v W) →
    ∀ K : Act → World → Prop, (∀ v W', R W W' → F i v W' → K (a.put o.dst v) W') →
      if Region.wanted o (yielded l.toArray a.tmps) = true then o.wp P a W K Q else K (a.put o.dst undef) W
def RGSteps : Nat → List Oper → Prop
  | _, [] => True
  | i, o :: rest => RGStep P l Q R F a0 w0 i o ∧ RGSteps (i + 1) rest
end

section
variable {P : Program} {l : List Oper} {Q : Exit → Act → World → Prop} {R : World → World → Prop} {F : Nat → Value → World → Prop} {a0 : Act} {w0 : World}

theorem RGSteps.get {k : Nat} {m : List Oper} (h : RGSteps P l Q R F a0 w0 k m) {i : Nat} {o : Oper} (hi : m[i]? = some o) : RGStep P l Q R F a0 w0 (k + i) o := by
  induction m generalizing k i with
  | nil => simp at hi
  | cons x m ih =>
    cases i with
    | zero => simp at hi; subst hi; exact h.1
    | succ i =>
      have := ih h.2 (by simpa using hi)
      rwa [show k + 1 + i = k + (i + 1) by omega] at this

theorem lexOk_edge {n : Nat} (h : lexOk l n = true) {i : Nat} {o : Oper} (hi : l[i]? = some o) {e : Edge} (he : e ∈ o.after) (hb : Region.binds .any e = true) : e.on < i := by
  have hil : i < l.length := (List.getElem?_eq_some_iff.1 hi).1
  simp only [lexOk, Bool.and_eq_true, List.all_eq_true, List.mem_range] at h
  have h1 := h.1 i hil
  rw [hi] at h1
  simp only [Bool.and_eq_true, Array.all_eq_true_iff_forall_mem] at h1
  have := h1.1 e he
  rw [hb] at this
  simpa using this
theorem lexOk_dst {n : Nat} (h : lexOk l n = true) {i : Nat} {d : Nat} (hi : dstOf l i = some d) : d < n := by
  have ⟨o, ho, hd⟩ : ∃ o, l[i]? = some o ∧ o.dst = some d := by
    unfold dstOf at hi
    cases hl : l[i]? with
    | none => rw [hl] at hi; simp at hi
    | some o => rw [hl] at hi; exact ⟨o, rfl, by simpa using hi⟩
  have hil : i < l.length := (List.getElem?_eq_some_iff.1 ho).1
  simp only [lexOk, Bool.and_eq_true, List.all_eq_true, List.mem_range] at h
  have h1 := h.1 i hil
  rw [ho] at h1
  simp only [Bool.and_eq_true, hd] at h1
  simpa using h1.2
theorem lexOk_apart {n : Nat} (h : lexOk l n = true) {i j d : Nat} (hi : dstOf l i = some d) (hj : dstOf l j = some d) : i = j := by
  have lt : ∀ k e, dstOf l k = some e → k < l.length := by
    intro k e hk
    unfold dstOf at hk
    rcases Nat.lt_or_ge k l.length with h | h
    · exact h
    · rw [List.getElem?_eq_none h] at hk; simp at hk
  simp only [lexOk, Bool.and_eq_true, List.all_eq_true, List.mem_range] at h
  have := h.2 i (lt i d hi) j (lt j d hj)
  rw [hi, hj] at this
  simpa using this

/-- What holds while the region runs. -/
structure RGInv (l : List Oper) (R : World → World → Prop) (F : Nat → Value → World → Prop) (a0 : Act) (w0 : World) (listed : Array Bool) (a : Act) (W : World) : Prop where
  size : listed.size = l.length
  defers : a.defers = a0.defers
  tsize : a.tmps.size = a0.tmps.size
  rel : R w0 W
  old : ∀ t, (∀ i, listed[i]? = some true → dstOf l i ≠ some t) → a.tmps[t]? = a0.tmps[t]?
  done : ∀ i, listed[i]? = some true → ∃ v, (∀ d, dstOf l i = some d → a.tmps[d]? = some v) ∧ F i v W

theorem rg_any (htrans : ∀ W W' W'', R W W' → R W' W'' → R W W'') (hstab : ∀ i v W W', F i v W → R W W' → F i v W') (hlex : lexOk l a0.tmps.size = true)
    (steps : RGSteps P l Q R F a0 w0 0 l)
    (fin : ∀ a W, RGInv l R F a0 w0 (Array.replicate l.length true) a W → Q .normal a W) :
    ∀ (fuel : Nat) (listed : Array Bool) (a : Act) (W : World), (listed.toList.filter (· == false)).length ≤ fuel → RGInv l R F a0 w0 listed a W → wpAny P .any l.toArray Q fuel listed a W := by
  -- nothing ready: all are listed
  have full : ∀ (listed : Array Bool) (a : Act) (W : World), RGInv l R F a0 w0 listed a W → Region.ready .any l.toArray listed = [] → Q .normal a W := by
    intro listed a W hI hr
    have hall : ∀ i, i < l.length → listed[i]? = some true := by
      intro i
      induction i using Nat.strongRecOn with
      | _ i ih =>
        intro hi
        have hsz : i < listed.size := by rw [hI.size]; exact hi
        cases hb : listed[i] with
        | true => rw [Array.getElem?_eq_getElem hsz, hb]
        | false =>
          exfalso
          have hmem : i ∈ Region.ready .any l.toArray listed := by
            unfold Region.ready
            rw [List.mem_filter]
            refine ⟨by simpa using hi, ?_⟩
            have hgd : listed.getD i true = false := by simp [Array.getD, hsz, hb]
            simp only [hgd, Bool.not_false, Bool.true_and]
            have hli : l.toArray[i]? = some l[i] := by simp [hi]
            rw [hli]
            simp only [Option.map_some, Option.getD_some, Array.all_eq_true_iff_forall_mem]
            intro e he
            cases hbe : Region.binds .any e with
            | false => rfl
            | true =>
              have hlt := lexOk_edge hlex (List.getElem?_eq_getElem hi) he hbe
              have := ih e.on hlt (by omega)
              simp [Array.getD_eq_getD_getElem?, this]
          rw [hr] at hmem
          cases hmem
    have hrep : listed = Array.replicate l.length true := by
      apply Array.ext
      · simp [hI.size]
      · intro i h1 h2
        have := hall i (by rw [← hI.size]; exact h1)
        rw [Array.getElem?_eq_getElem h1] at this
        simpa using this
    subst hrep
    exact fin a W hI
  intro fuel
  induction fuel with
  | zero =>
    intro listed a W hf hI
    have hr : Region.ready .any l.toArray listed = [] := by
      rw [List.eq_nil_iff_forall_not_mem]
      intro i hi
      unfold Region.ready at hi
      rw [List.mem_filter] at hi
      have h1 : listed.getD i true = false := by
        have := hi.2
        simp only [Bool.and_eq_true, Bool.not_eq_true'] at this
        exact this.1
      have hsz : i < listed.size := by
        rcases Nat.lt_or_ge i listed.size with h | h
        · exact h
        · simp [Array.getD, Nat.not_lt.2 h] at h1
      have hx : listed[i] = false := by simpa [Array.getD, hsz] using h1
      have : false ∈ listed.toList.filter (· == false) := by
        rw [List.mem_filter]
        exact ⟨by rw [← hx]; simp, rfl⟩
      have hlen := List.length_pos_of_mem this
      omega
    exact ⟨hr, full listed a W hI hr⟩
  | succ fuel ih =>
    intro listed a W hf hI
    refine ⟨full listed a W hI, fun i hi => ?_⟩
    unfold Region.ready at hi
    rw [List.mem_filter] at hi
    obtain ⟨hir, hi2⟩ := hi
    have hil : i < l.length := by simpa using hir
    have hli : l.toArray[i]? = some l[i] := by simp [hil]
    rw [hli] at hi2
    simp only [Bool.and_eq_true, Bool.not_eq_true', Option.map_some, Option.getD_some, Array.all_eq_true_iff_forall_mem] at hi2
    obtain ⟨hnl, hdeps⟩ := hi2
    have hsz : i < listed.size := by rw [hI.size]; exact hil
    have hx : listed[i] = false := by simpa [Array.getD, hsz] using hnl
    have hst := steps.get (i := i) (List.getElem?_eq_getElem hil)
    rw [Nat.zero_add] at hst
    have hfacts : ∀ j d, waitsFor l[i] j = true → dstOf l j = some d → ∃ v, a.tmps[d]? = some v ∧ a.tmps.getD d undef = v ∧ F j v W := by
      intro j d hw hd
      unfold waitsFor at hw
      rw [← Array.any_toList, List.any_eq_true] at hw
      obtain ⟨e, he, hbe⟩ := hw
      have he := Array.mem_toList_iff.1 he
      simp only [Bool.and_eq_true, beq_iff_eq] at hbe
      have h1 := hdeps e he
      rw [hbe.1, hbe.2] at h1
      have hj : listed[j]? = some true := by
        have h2 : listed.getD j false = true := by simpa using h1
        rw [Array.getD_eq_getD_getElem?] at h2
        cases hlj : listed[j]? with
        | none => rw [hlj] at h2; simp at h2
        | some b => rw [hlj] at h2; simpa using h2
      obtain ⟨v, hv, hF⟩ := hI.done j hj
      exact ⟨v, hv d hd, by rw [Array.getD_eq_getD_getElem?, hv d hd]; rfl, hF⟩
    have hkeep : ∀ t v, unwritten l t = true → a0.tmps[t]? = some v → a.tmps[t]? = some v ∧ a.tmps.getD t undef = v := by
      intro t v ht h0
      suffices hs : a.tmps[t]? = some v by exact ⟨hs, by rw [Array.getD_eq_getD_getElem?, hs]; rfl⟩
      rw [← h0]
      refine hI.old t fun j _ hj => ?_
      unfold dstOf at hj
      cases hlj : l[j]? with
      | none => rw [hlj] at hj; simp at hj
      | some o =>
        rw [hlj] at hj
        have := List.all_eq_true.1 ht o (List.mem_of_getElem? hlj)
        have hj' : o.dst = some t := by simpa using hj
        rw [hj'] at this
        simp at this
    -- the state behind it
    have next : ∀ v W', R W W' → F i v W' → wpAny P .any l.toArray Q fuel (listed.setIfInBounds i true) (a.put l[i].dst v) W' := by
      intro v W' hR hF
      have hget : ∀ k, (listed.setIfInBounds i true)[k]? = some true → k = i ∨ listed[k]? = some true := by
        intro k hk
        rw [Array.getElem?_setIfInBounds] at hk
        by_cases hki : i = k
        · exact .inl hki.symm
        · rw [if_neg hki] at hk; exact .inr hk
      have hdi : dstOf l i = l[i].dst := by simp [dstOf, hil]
      have hput : ∀ t, l[i].dst ≠ some t → (a.put l[i].dst v).tmps[t]? = a.tmps[t]? := by
        intro t ht
        cases hd : l[i].dst with
        | none => rfl
        | some d =>
          have hne : d ≠ t := fun e => ht (by rw [hd, e])
          simp [Act.put, Array.getElem?_setIfInBounds_ne hne]
      refine ih _ _ _ ?_ ⟨by simpa using hI.size, ?_, ?_, htrans _ _ _ hI.rel hR, ?_, ?_⟩
      · have hcnt : ∀ (L : List Bool) (k : Nat), L[k]? = some false → ((L.set k true).filter (· == false)).length + 1 = (L.filter (· == false)).length := by
          intro L
          induction L with
          | nil => intro k hk; simp at hk
          | cons b L ihL =>
            intro k hk
            cases k with
            | zero => simp at hk; subst hk; simp
            | succ k =>
              have := ihL k (by simpa using hk)
              cases b <;> simp at this ⊢ <;> omega
        have h1 := hcnt listed.toList i (by rw [Array.getElem?_toList, Array.getElem?_eq_getElem hsz, hx])
        rw [Array.toList_setIfInBounds]
        omega
      · rw [← hI.defers]; cases l[i].dst <;> rfl
      · rw [← hI.tsize]; cases l[i].dst <;> simp [Act.put]
      · intro t ht
        have h1 : l[i].dst ≠ some t := by
          rw [← hdi]
          exact ht i (by rw [Array.getElem?_setIfInBounds, if_pos rfl, if_pos hsz])
        rw [hput t h1]
        refine hI.old t fun j hj => ht j ?_
        rw [Array.getElem?_setIfInBounds]
        by_cases hij : i = j
        · rw [if_pos hij, if_pos hsz]
        · rw [if_neg hij]; exact hj
      · intro k hk
        by_cases hki : k = i
        · subst hki
          refine ⟨v, fun d hd => ?_, hF⟩
          have hdd : l[k].dst = some d := by rw [← hdi]; exact hd
          have hlt : d < a.tmps.size := by rw [hI.tsize]; exact lexOk_dst hlex hd
          rw [hdd]
          simp [Act.put, hlt]
        · rcases hget k hk with h | h
          · exact absurd h hki
          · obtain ⟨u, hu, hFu⟩ := hI.done k h
            refine ⟨u, fun d hd => ?_, hstab _ _ _ _ hFu hR⟩
            rw [hput d (fun e => hki (lexOk_apart hlex hd (by rw [hdi]; exact e)))]
            exact hu d hd
    unfold wpOp
    rw [hli]
    have h2 := hst a W hI.rel hkeep hfacts (wpAny P .any l.toArray Q fuel (listed.setIfInBounds i true)) next
    dsimp only
    split
    · rename_i hw; rw [if_pos hw] at h2; exact .inl h2
    · rename_i hw; rw [if_neg hw] at h2; exact h2

theorem setAll_size (vs : Nat → Value) (m : List Oper) (k : Nat) (t : Array Value) : (setAll vs k m t).size = t.size := by
  induction m generalizing k t with
  | nil => rfl
  | cons o m ih => simp only [setAll, ih]; cases o.dst <;> simp
theorem setAll_other (vs : Nat → Value) (m : List Oper) (k : Nat) (t : Array Value) (d : Nat) (h : ∀ o ∈ m, o.dst ≠ some d) : (setAll vs k m t)[d]? = t[d]? := by
  induction m generalizing k t with
  | nil => rfl
  | cons o m ih =>
    simp only [setAll]
    rw [ih _ _ (fun x hx => h x (by simp [hx]))]
    cases ho : o.dst with
    | none => rfl
    | some e =>
      have hne : e ≠ d := fun he => h o (by simp) (by rw [ho, he])
      simp [Array.getElem?_setIfInBounds_ne hne]
theorem setAll_at (vs : Nat → Value) (m : List Oper) (k : Nat) (t : Array Value) (i d : Nat) (hd : d < t.size) (h : dstOf m i = some d) (hu : ∀ j, dstOf m j = some d → j = i) : (setAll vs k m t)[d]? = some (vs (k + i)) := by
  induction m generalizing k t i with
  | nil => simp [dstOf] at h
  | cons o m ih =>
    simp only [setAll]
    cases i with
    | zero =>
      have ho : o.dst = some d := by simpa [dstOf] using h
      rw [setAll_other]
      · simp [ho, hd]
      · intro x hx hxd
        obtain ⟨j, hj⟩ := List.getElem?_of_mem hx
        have := hu (j + 1) (by simp [dstOf, hj, hxd])
        omega
    | succ i =>
      have := ih (k + 1) (match o.dst with | some d => t.setIfInBounds d (vs k) | none => t) i (by cases o.dst <;> simp [hd]) (by simpa [dstOf] using h)
        (fun j hj => by have := hu (j + 1) (by simpa [dstOf] using hj); omega)
      rw [this, show k + 1 + i = k + (i + 1) by omega]

/-- A REGION THAT DRAWS ITS ORDER. -/
theorem region_rg {id : Nat} {w : World} (hm : P.follows .mixedOrders = true) (R : World → World → Prop) (F : Nat → Value → World → Prop)
    (hrefl : ∀ W, R W W) (htrans : ∀ W W' W'', R W W' → R W' W'' → R W W'') (hstab : ∀ i v W W', F i v W → R W W' → F i v W') (hlex : lexOk l a0.tmps.size = true)
    (steps : RGSteps P l Q R F a0 w.drew 0 l)
    (fin : ∀ (vs : Nat → Value) W, R w.drew W → (∀ i, i < l.length → F i (vs i) W) → Q .normal { a0 with tmps := setAll vs 0 l a0.tmps } W) : (Code.region id l.toArray true).wp P Q a0 w := by
  refine wp_region_any hm ?_
  refine rg_any (R := R) (F := F) (a0 := a0) (w0 := w.drew) htrans hstab hlex steps ?_ _ _ _ _ ?_ ⟨by simp, rfl, rfl, hrefl _, fun _ _ => rfl, ?_⟩
  · intro a W hI
    have hch : ∀ i, ∃ v, i < l.length → (∀ d, dstOf l i = some d → a.tmps[d]? = some v) ∧ F i v W := by
      intro i
      by_cases hi : i < l.length
      · obtain ⟨v, hv⟩ := hI.done i (by simp [hi])
        exact ⟨v, fun _ => hv⟩
      · exact ⟨undef, fun h => absurd h hi⟩
    have hvs := fun i => (hch i).choose_spec
    have he : a = { a0 with tmps := setAll (fun i => (hch i).choose) 0 l a0.tmps } := by
      have ht : a.tmps = setAll (fun i => (hch i).choose) 0 l a0.tmps := by
        apply Array.ext_getElem?
        intro t
        by_cases hw : ∃ i, dstOf l i = some t
        · obtain ⟨i, hi⟩ := hw
          have hil : i < l.length := by
            rcases Nat.lt_or_ge i l.length with h | h
            · exact h
            · unfold dstOf at hi; rw [List.getElem?_eq_none h] at hi; simp at hi
          rw [setAll_at _ l 0 a0.tmps i t (lexOk_dst hlex hi) hi (fun j hj => lexOk_apart hlex hj hi), Nat.zero_add]
          exact (hvs i hil).1 t hi
        · rw [setAll_other]
          · exact hI.old t fun i _ hi => hw ⟨i, hi⟩
          · intro o ho hd
            obtain ⟨j, hj⟩ := List.getElem?_of_mem ho
            exact hw ⟨j, by simp [dstOf, hj, hd]⟩
      obtain ⟨tm, df⟩ := a
      have hd := hI.defers
      simp only at ht hd
      show Act.mk tm df = Act.mk _ _
      rw [← ht, hd]
    rw [he]
    exact fin _ W hI.rel fun i hi => (hvs i hi).2
  · simp
  · intro i hi
    rw [Array.getElem?_replicate] at hi
    split at hi <;> simp at hi
end

/-- What is said of the value that an operation yields; it stays true along R. -/
structure Row (R : World → World → Prop) where
  p : Value → World → Prop
  h : ∀ v W W', p v W → R W W' → p v W'
def Row.val {R : World → World → Prop} (x : Value) : Row R := ⟨fun v _ => v = x, fun _ _ _ h _ => h⟩
def Row.any {R : World → World → Prop} : Row R := ⟨fun _ _ => True, fun _ _ _ h _ => h⟩
def Row.is {R : World → World → Prop} (q : Value → Prop) : Row R := ⟨fun v _ => q v, fun _ _ _ h _ => h⟩
def rowAt {R : World → World → Prop} (rows : List (Row R)) (i : Nat) : Value → World → Prop := (rows.getD i .any).p

/-- The rule with its rows. -/
theorem region_rows {P : Program} {l : List Oper} {Q : Exit → Act → World → Prop} {a0 : Act} {id : Nat} {w : World} (hm : P.follows .mixedOrders = true) (R : World → World → Prop) (rows : List (Row R))
    (hrefl : ∀ W, R W W) (htrans : ∀ W W' W'', R W W' → R W' W'' → R W W'') (hlex : lexOk l a0.tmps.size = true)
    (steps : RGSteps P l Q R (rowAt rows) a0 w.drew 0 l)
    (fin : ∀ (vs : Nat → Value) W, R w.drew W → (∀ i, i < l.length → rowAt rows i (vs i) W) → Q .normal { a0 with tmps := setAll vs 0 l a0.tmps } W) : (Code.region id l.toArray true).wp P Q a0 w :=
  region_rg hm R (rowAt rows) hrefl htrans (fun i v W W' => (rows.getD i .any).h v W W') hlex steps fin

/-! ### append(s, x...) where x came from anywhere, nil and empty too -/
section
variable {P : Program} (w : World)
theorem run_append_zero (t ty e : TypeId) (i : TypeInfo) (sz : Nat) (ht : P.underlying t = some (.slice e)) (hi : P.info? e = some i)
    (v : Value) (n : Nat) (xs : List Value) (hown : Own w e sz v n xs) (A : Option Addr) (c : Nat) : (Builtin.append_ #[t, t] ty #[v, .slice A 0 c]).run P w = .ok v w := by
  have hf : (Builtin.firstCells i.size 0 (.slice A 0 c)).run P w = .ok #[] w := by
    cases A with
    | none => simp [Builtin.firstCells]
    | some a =>
      have := run_firstCells_some (P := P) w i.size 0 a 0 c [] (by simp) (fun j v h => by simp at h)
      simpa using this
  rcases hown.2 with ⟨rfl, rfl⟩ | ⟨g, off, cap, cur, rfl, _, hnc, _⟩
  · simp [Builtin.append_, run_underlying ht, sizeOf, typeInfo, hi, Builtin.lenOf, hf]
  · simp [Builtin.append_, run_underlying ht, sizeOf, typeInfo, hi, Builtin.lenOf, hf, hnc, storeCells]
theorem run_append_rd (t ty : TypeId) (e : TypeId) (i : TypeInfo) (z : Value) (sz bytes : Nat) (ht : P.underlying t = some (.slice e)) (hi : P.info? e = some i) (hz : i.zero = some z)
    (hsize : i.size = sz) (hby : i.bytes = bytes) (hzs : z.cells.size = sz) (hsz : 0 < sz)
    (v : Value) (n : Nat) (xs : List Value) (hown : Own w e sz v n xs)
    (B : Nat) (A : Option Addr) (m c : Nat) (news : List Value) (hr : Rd w B sz A m news) (h1 : ∀ u ∈ news, u.oneCell' = true)
    (h63 : n + m ≤ maxLen) (hbytes : (n + m) * bytes ≤ 140737488355328) :
    ∃ v' w', (Builtin.append_ #[t, t] ty #[v, .slice A m c]).run P w = .ok v' w' ∧ Own w' e sz v' (n + m) (xs ++ news) ∧ w.grownBy w' v.ownBlock ∧ (v'.ownBlock = v.ownBlock ∨ v'.ownBlock = some w.heap.size) := by
  rcases Nat.eq_zero_or_pos m with h0 | h0
  · subst h0
    obtain rfl : news = [] := List.eq_nil_of_length_eq_zero (by simpa using hr.1)
    exact ⟨v, w, run_append_zero w t ty e i sz ht hi v n xs hown A c, by simpa using hown, World.grownBy.refl w _, .inl rfl⟩
  · obtain ⟨b, off, rfl, _, hc⟩ := hr.2 h0
    obtain ⟨g, o, cap, w', hrun, h2, h3, h4⟩ := run_append_mine (P := P) w t ty e i z sz bytes ht hi hz hsize hby hzs hsz v n xs hown ⟨b, off, none⟩ m c news hr.1
      (fun j u hu => by
        have hj : j < m * sz := by have := (List.getElem?_eq_some_iff.1 hu).1; rw [hr.1] at this; exact this
        rw [Addr.add_lit, hc j hj, hu]) h1 h0 h63 hbytes
    refine ⟨_, w', hrun, h2, h3, ?_⟩
    rcases h4 with h4 | h4
    · exact .inl (by rw [h4]; rfl)
    · exact .inr (by rw [h4]; rfl)
theorem wp_append_rd {o : Oper} {a : Act} {K : Act → World → Prop} {Q : Exit → Act → World → Prop} (s x : Operand) (t : TypeId)
    (ho : o.op = .call { callee := .builtin .append, args := #[s, x], argTypes := #[t, t] })
    (e : TypeId) (i : TypeInfo) (z : Value) (sz bytes : Nat) (ht : P.underlying t = some (.slice e)) (hi : P.info? e = some i) (hz : i.zero = some z)
    (hsize : i.size = sz) (hby : i.bytes = bytes) (hzs : z.cells.size = sz) (hsz : 0 < sz)
    (v : Value) (n : Nat) (xs : List Value) (hs : a.eval s = v) (hown : Own w e sz v n xs)
    (B : Nat) (A : Option Addr) (m c : Nat) (news : List Value) (hx : a.eval x = .slice A m c) (hr : Rd w B sz A m news) (h1 : ∀ u ∈ news, u.oneCell' = true)
    (h63 : n + m ≤ maxLen) (hbytes : (n + m) * bytes ≤ 140737488355328) (H : Nat) (hH : w.heap.size = H)
    (h : ∀ v' w', Own w' e sz v' (n + m) (xs ++ news) → w.grownBy w' v.ownBlock → (v'.ownBlock = v.ownBlock ∨ v'.ownBlock = some H) → K (a.put o.dst v') w') : o.wp P a w K Q := by
  subst hH
  obtain ⟨v', w', hrun, h2, h3, h4⟩ := run_append_rd (P := P) w t o.type e i z sz bytes ht hi hz hsize hby hzs hsz v n xs hown B A m c news hr h1 h63 hbytes
  unfold Oper.wp execOp
  simp only [ho, resolve, invoke, builtin, Sem.run_bind, Sem.run_pure, Result.andThen_ok, List.map_toArray, List.map_cons, List.map_nil, hs, hx, hrun]
  exact h v' w' h2 h3 h4
theorem wpList_append_rd {ops : Array Oper} {rest : List Oper} {o : Oper} {a : Act} {Q : Exit → Act → World → Prop} (hgd : o.guard = none) (s x : Operand) (t : TypeId)
    (ho : o.op = .call { callee := .builtin .append, args := #[s, x], argTypes := #[t, t] })
    (e : TypeId) (i : TypeInfo) (z : Value) (sz bytes : Nat) (ht : P.underlying t = some (.slice e)) (hi : P.info? e = some i) (hz : i.zero = some z)
    (hsize : i.size = sz) (hby : i.bytes = bytes) (hzs : z.cells.size = sz) (hsz : 0 < sz)
    (v : Value) (n : Nat) (xs : List Value) (hs : a.eval s = v) (hown : Own w e sz v n xs)
    (B : Nat) (A : Option Addr) (m c : Nat) (news : List Value) (hx : a.eval x = .slice A m c) (hr : Rd w B sz A m news) (h1 : ∀ u ∈ news, u.oneCell' = true)
    (h63 : n + m ≤ maxLen) (hbytes : (n + m) * bytes ≤ 140737488355328) (H : Nat) (hH : w.heap.size = H)
    (h : ∀ v' w', Own w' e sz v' (n + m) (xs ++ news) → w.grownBy w' v.ownBlock → (v'.ownBlock = v.ownBlock ∨ v'.ownBlock = some H) → wpList P ops Q rest (a.put o.dst v') w') : wpList P ops Q (o :: rest) a w :=
  wpList_plain hgd fun _ hK => wp_append_rd w s x t ho e i z sz bytes ht hi hz hsize hby hzs hsz v n xs hs hown B A m c news hx hr h1 h63 hbytes H hH fun v' w' h2 h3 h4 => hK _ _ (h v' w' h2 h3 h4)
end
end Go.Rb
