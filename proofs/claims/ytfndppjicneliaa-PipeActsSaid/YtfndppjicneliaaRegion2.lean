/-
  A rule for regions that draw their order and whose calls change two things, each at one operation ('region_objs'); no condition beyond those that each theorem states.
-/
import Derived.Test.YtfndppjicneliaaRegion
namespace Go.Rb
open Go.RowKit

/-- The operations that each waits for, through others too (as bits). -/
def maskStep (ms : List Nat) (o : Oper) : Nat := o.after.toList.foldl (fun a e => if Region.binds .any e then a ||| ms.getD e.on 0 ||| (1 <<< e.on) else a) 0
def masks : List Oper → List Nat → List Nat
  | [], ms => ms
  | o :: r, ms => masks r (ms ++ [maskStep ms o])

def ClosedUp (l : List Oper) (listed : Nat → Bool) : Prop := ∀ i o, l[i]? = some o → listed i = true → ∀ e ∈ o.after, Region.binds .any e = true → listed e.on = true
theorem fold_bits (ms : List Nat) (k : Nat) : ∀ (es : List Edge) (a : Nat), (es.foldl (fun a e => if Region.binds .any e then a ||| ms.getD e.on 0 ||| (1 <<< e.on) else a) a).testBit k = true →
    a.testBit k = true ∨ ∃ e ∈ es, Region.binds .any e = true ∧ (e.on = k ∨ (ms.getD e.on 0).testBit k = true)
  | [], a, h => .inl h
  | e :: es, a, h => by
    rw [List.foldl_cons] at h
    rcases fold_bits ms k es _ h with h | ⟨e', he', hb, hk⟩
    · by_cases hb : Region.binds .any e = true
      · rw [if_pos hb, Nat.testBit_or, Nat.testBit_or, Bool.or_eq_true, Bool.or_eq_true] at h
        rcases h with (h | h) | h
        · exact .inl h
        · exact .inr ⟨e, by simp, hb, .inr h⟩
        · refine .inr ⟨e, by simp, hb, .inl ?_⟩
          rw [Nat.testBit_shiftLeft] at h
          simp only [Bool.and_eq_true, decide_eq_true_eq] at h
          have h2 := h.2
          have : k - e.on = 0 := by
            rcases Nat.eq_zero_or_pos (k - e.on) with h0 | h0
            · exact h0
            · rw [Nat.testBit_one_eq_true_iff_self_eq_zero] at h2
              omega
          omega
      · rw [if_neg hb] at h; exact .inl h
    · exact .inr ⟨e', by simp [he'], hb, hk⟩
theorem masks_sound (l : List Oper) (listed : Nat → Bool) (hc : ClosedUp l listed) : ∀ (r : List Oper) (ms : List Nat), (∀ j o, r[j]? = some o → l[ms.length + j]? = some o) →
    (∀ i k, (ms.getD i 0).testBit k = true → listed i = true → listed k = true) → ∀ i k, ((masks r ms).getD i 0).testBit k = true → listed i = true → listed k = true
  | [], ms, _, hg => hg
  | o :: r, ms, hl, hg => by
    refine masks_sound l listed hc r (ms ++ [maskStep ms o]) (fun j o' hj => ?_) ?_
    · have := hl (j + 1) o' (by simpa using hj)
      rw [← this]; congr 1; simp; omega
    · intro i k hb hi
      rcases Nat.lt_trichotomy i ms.length with h | h | h
      · rw [List.getD_eq_getElem?_getD, List.getElem?_append_left h, ← List.getD_eq_getElem?_getD] at hb
        exact hg i k hb hi
      · subst h
        rw [List.getD_eq_getElem?_getD, List.getElem?_append_right (by omega)] at hb
        simp only [Nat.sub_self, List.getElem?_cons_zero, Option.getD_some] at hb
        unfold maskStep at hb
        rcases fold_bits ms k _ _ hb with h | ⟨e, he, hbe, hk⟩
        · simp at h
        · have hon := hc ms.length o (by simpa using hl 0 o rfl) hi e (by simpa using he) hbe
          rcases hk with hk | hk
          · rwa [← hk]
          · exact hg e.on k hk hon
      · rw [List.getD_eq_getElem?_getD, List.getElem?_eq_none (by simp; omega)] at hb
        simp at hb

/-- A thing that operation k changes. -/
structure Obj2 where
  k : Nat
  pre : World → Prop
  post : World → Prop
def Obj2.at_ (b : Obj2) (listed : Nat → Bool) (W : World) : Prop := if listed b.k = true then b.post W else b.pre W
/-- What operation i may know of it. -/
def Side (ms : List Nat) (i : Nat) (b : Obj2) (W : World) : Prop :=
  if i = b.k then b.pre W else if (ms.getD b.k 0).testBit i = true then b.pre W else if (ms.getD i 0).testBit b.k = true then b.post W else b.pre W ∨ b.post W
/-- What it owes. -/
def SideOut (ms : List Nat) (i : Nat) (b : Obj2) (W W' : World) : Prop :=
  if i = b.k then b.post W' else if (ms.getD b.k 0).testBit i = true then b.pre W' else if (ms.getD i 0).testBit b.k = true then b.post W' else (b.pre W → b.pre W') ∧ (b.post W → b.post W')
section
variable {ms : List Nat} {i : Nat} {b : Obj2} {W W' : World}
theorem Side.self (h : Side ms i b W) (hi : i = b.k) : b.pre W := by unfold Side at h; rwa [if_pos hi] at h
theorem Side.early (h : Side ms i b W) (he : (ms.getD b.k 0).testBit i = true) : b.pre W := by
  unfold Side at h
  by_cases hi : i = b.k
  · rwa [if_pos hi] at h
  · rwa [if_neg hi, if_pos he] at h
theorem Side.late (h : Side ms i b W) (hi : i ≠ b.k) (hn : (ms.getD b.k 0).testBit i = false) (he : (ms.getD i 0).testBit b.k = true) : b.post W := by
  unfold Side at h
  rwa [if_neg hi, if_neg (by rw [hn]; simp), if_pos he] at h
theorem Side.keep (h : Side ms i b W) (hi : i ≠ b.k) (h1 : b.pre W → b.pre W') (h2 : b.post W → b.post W') : SideOut ms i b W W' := by
  unfold Side at h
  unfold SideOut
  rw [if_neg hi] at h ⊢
  split
  · rename_i he; rw [if_pos he] at h; exact h1 h
  · rename_i he
    rw [if_neg he] at h
    split
    · rename_i hf; rw [if_pos hf] at h; exact h2 h
    · exact ⟨h1, h2⟩
theorem Side.same (h : Side ms i b W) (hi : i ≠ b.k) : SideOut ms i b W W := h.keep hi id id
theorem SideOut.self (hi : i = b.k) (h : b.post W') : SideOut ms i b W W' := by unfold SideOut; rwa [if_pos hi]
end

section
variable (P : Program) (l : List Oper) (Q : Exit → Act → World → Prop) (R : World → World → Prop) (F : Nat → Value → World → Prop) (A B : Obj2) (ms : List Nat) (a0 : Act) (w0 : World)
def ROStep (i : Nat) (o : Oper) : Prop :=
  ∀ a W, R w0 W → Side ms i A W → Side ms i B W → (∀ t v, unwritten l t = true → a0.tmps[t]? = some v → a.tmps[t]? = some v ∧ a.tmps.getD t undef = v) →
    (∀ j d, waitsFor o j = true → dstOf l j = some d → ∃ v, a.tmps[d]? = some v ∧ a.tmps.getD d undef = v ∧ F j v W) →
    ∀ K : Act → World → Prop, (∀ v W', R W W' → F i v W' → SideOut ms i A W W' → SideOut ms i B W W' → K (a.put o.dst v) W') →
      if Region.wanted o (yielded l.toArray a.tmps) = true then o.wp P a W K Q else K (a.put o.dst undef) W
def ROSteps : Nat → List Oper → Prop
  | _, [] => True
  | i, o :: rest => ROStep P l Q R F A B ms a0 w0 i o ∧ ROSteps (i + 1) rest
end

section
variable {P : Program} {l : List Oper} {Q : Exit → Act → World → Prop} {R : World → World → Prop} {F : Nat → Value → World → Prop} {A B : Obj2} {a0 : Act} {w0 : World}
theorem ROSteps.get {ms : List Nat} {k : Nat} {m : List Oper} (h : ROSteps P l Q R F A B ms a0 w0 k m) {i : Nat} {o : Oper} (hi : m[i]? = some o) : ROStep P l Q R F A B ms a0 w0 (k + i) o := by
  induction m generalizing k i with
  | nil => simp at hi
  | cons x m ih =>
    cases i with
    | zero => simp at hi; subst hi; exact h.1
    | succ i =>
      have := ih h.2 (by simpa using hi)
      rwa [show k + 1 + i = k + (i + 1) by omega] at this

/-- While the region runs: the invariant of region_rg, the things, and that what an operation waits for is done. -/
structure ROInv (l : List Oper) (R : World → World → Prop) (F : Nat → Value → World → Prop) (A B : Obj2) (a0 : Act) (w0 : World) (listed : Array Bool) (a : Act) (W : World) : Prop where
  base : RGInv l R F a0 w0 listed a W
  up : ClosedUp l (fun i => listed.getD i false)
  sa : A.at_ (fun i => listed.getD i false) W
  sb : B.at_ (fun i => listed.getD i false) W

theorem side_of {listed : Array Bool} {b : Obj2} {W : World} {i : Nat} (hup : ClosedUp l (fun i => listed.getD i false)) (hb : b.at_ (fun i => listed.getD i false) W) (hi : listed.getD i false = false)
    (hdep : ∀ o, l[i]? = some o → ∀ e ∈ o.after, Region.binds .any e = true → listed.getD e.on false = true) : Side (masks l []) i b W := by
  have hs := masks_sound l _ hup l [] (fun j o hj => by simpa using hj) (fun i k h => by simp at h)
  unfold Obj2.at_ at hb
  unfold Side
  by_cases hk : i = b.k
  · subst hk
    rw [if_pos rfl]
    simp only [hi] at hb
    simpa using hb
  · rw [if_neg hk]
    split
    · rename_i he
      by_cases hl : listed.getD b.k false = true
      · exfalso
        have := hs b.k i he hl
        simp only [hi] at this
        simp at this
      · rwa [if_neg hl] at hb
    · split
      · rename_i he
        -- as if i were done too
        have hup2 : ClosedUp l (fun j => listed.getD j false || (j == i)) := by
          intro j o hj hlj e hem hbe
          simp only [Bool.or_eq_true, beq_iff_eq] at hlj ⊢
          rcases hlj with hlj | hlj
          · exact .inl (hup j o hj hlj e hem hbe)
          · subst hlj; exact .inl (hdep o hj e hem hbe)
        have hs2 := masks_sound l _ hup2 l [] (fun j o hj => by simpa using hj) (fun i k h => by simp at h)
        have := hs2 i b.k he (by simp)
        simp only [Bool.or_eq_true, beq_iff_eq] at this
        rcases this with h | h
        · rwa [if_pos h] at hb
        · exact absurd h.symm hk
      · split at hb
        · exact .inr hb
        · exact .inl hb

theorem at_next {listed : Array Bool} {b : Obj2} {W W' : World} {i : Nat} {ms : List Nat} (hsz : i < listed.size) (hb : b.at_ (fun j => listed.getD j false) W) (hs : Side ms i b W) (ho : SideOut ms i b W W')
    (hearly : (ms.getD b.k 0).testBit i = true → listed.getD b.k false = false) (hlate : (ms.getD i 0).testBit b.k = true → (ms.getD b.k 0).testBit i = false → i ≠ b.k → listed.getD b.k false = true) :
    b.at_ (fun j => (listed.setIfInBounds i true).getD j false) W' := by
  have hget : (listed.setIfInBounds i true).getD b.k false = if i = b.k then true else listed.getD b.k false := by
    rw [Array.getD_eq_getD_getElem?, Array.getElem?_setIfInBounds]
    by_cases h : i = b.k
    · subst h; simp [hsz]
    · simp [h, Array.getD_eq_getD_getElem?]
  unfold Obj2.at_ at hb ⊢
  unfold SideOut at ho
  simp only [hget]
  by_cases hk : i = b.k
  · rw [if_pos hk] at ho
    simp only [if_pos hk]
    simpa using ho
  · rw [if_neg hk] at ho
    simp only [if_neg hk]
    by_cases he : (ms.getD b.k 0).testBit i = true
    · rw [if_pos he] at ho
      rw [hearly he]
      simpa using ho
    · rw [if_neg he] at ho
      by_cases hf : (ms.getD i 0).testBit b.k = true
      · rw [if_pos hf] at ho
        rw [hlate hf (by simpa using he) hk]
        simpa using ho
      · rw [if_neg hf] at ho
        split at hb
        · rename_i h; rw [if_pos h]; exact ho.2 hb
        · rename_i h; rw [if_neg h]; exact ho.1 hb

theorem ro_any (htrans : ∀ W W' W'', R W W' → R W' W'' → R W W'') (hstab : ∀ i v W W', F i v W → R W W' → F i v W') (hlex : lexOk l a0.tmps.size = true)
    (steps : ROSteps P l Q R F A B (masks l []) a0 w0 0 l)
    (fin : ∀ a W, ROInv l R F A B a0 w0 (Array.replicate l.length true) a W → Q .normal a W) :
    ∀ (fuel : Nat) (listed : Array Bool) (a : Act) (W : World), (listed.toList.filter (· == false)).length ≤ fuel → ROInv l R F A B a0 w0 listed a W → wpAny P .any l.toArray Q fuel listed a W := by
  have full : ∀ (listed : Array Bool) (a : Act) (W : World), ROInv l R F A B a0 w0 listed a W → Region.ready .any l.toArray listed = [] → Q .normal a W := by
    intro listed a W hI hr
    have hall : ∀ i, i < l.length → listed[i]? = some true := by
      intro i
      induction i using Nat.strongRecOn with
      | _ i ih =>
        intro hi
        have hsz : i < listed.size := by rw [hI.base.size]; exact hi
        cases hb : listed[i] with
        | true => rw [Array.getElem?_eq_getElem hsz, hb]
        | false =>
          exfalso
          have hmem : i ∈ Region.ready .any l.toArray listed := by
            unfold Region.ready
            rw [List.mem_filter]
            refine ⟨by simpa using hi, ?_⟩
            have hgd : listed.getD i true = false := by simp [Array.getD, hsz, hb]
            simp only [hgd, Bool.not_false, Bool.true_and]
            have hli : l.toArray[i]? = some l[i] := by simp [hi]
            rw [hli]
            simp only [Option.map_some, Option.getD_some, Array.all_eq_true_iff_forall_mem]
            intro e he
            cases hbe : Region.binds .any e with
            | false => rfl
            | true =>
              have hlt := lexOk_edge hlex (List.getElem?_eq_getElem hi) he hbe
              have := ih e.on hlt (by omega)
              simp [Array.getD_eq_getD_getElem?, this]
          rw [hr] at hmem
          cases hmem
    have hrep : listed = Array.replicate l.length true := by
      apply Array.ext
      · simp [hI.base.size]
      · intro i h1 h2
        have := hall i (by rw [← hI.base.size]; exact h1)
        rw [Array.getElem?_eq_getElem h1] at this
        simpa using this
    subst hrep
    exact fin a W hI
  intro fuel
  induction fuel with
  | zero =>
    intro listed a W hf hI
    have hr : Region.ready .any l.toArray listed = [] := by
      rw [List.eq_nil_iff_forall_not_mem]
      intro i hi
      unfold Region.ready at hi
      rw [List.mem_filter] at hi
      have h1 : listed.getD i true = false := by
        have := hi.2
        simp only [Bool.and_eq_true, Bool.not_eq_true'] at this
        exact this.1
      have hsz : i < listed.size := by
        rcases Nat.lt_or_ge i listed.size with h | h
        · exact h
        · simp [Array.getD, Nat.not_lt.2 h] at h1
      have hx : listed[i] = false := by simpa [Array.getD, hsz] using h1
      have : false ∈ listed.toList.filter (· == false) := by
        rw [List.mem_filter]
        exact ⟨by rw [← hx]; simp, rfl⟩
      have hlen := List.length_pos_of_mem this
      omega
    exact ⟨hr, full listed a W hI hr⟩
  | succ fuel ih =>
    intro listed a W hf hI
    refine ⟨full listed a W hI, fun i hi => ?_⟩
    unfold Region.ready at hi
    rw [List.mem_filter] at hi
    obtain ⟨hir, hi2⟩ := hi
    have hil : i < l.length := by simpa using hir
    have hli : l.toArray[i]? = some l[i] := by simp [hil]
    rw [hli] at hi2
    simp only [Bool.and_eq_true, Bool.not_eq_true', Option.map_some, Option.getD_some, Array.all_eq_true_iff_forall_mem] at hi2
    obtain ⟨hnl, hdeps⟩ := hi2
    have hsz : i < listed.size := by rw [hI.base.size]; exact hil
    have hx : listed[i] = false := by simpa [Array.getD, hsz] using hnl
    have hxd : listed.getD i false = false := by simp [Array.getD, hsz, hx]
    have hst := steps.get (i := i) (List.getElem?_eq_getElem hil)
    rw [Nat.zero_add] at hst
    have hdone : ∀ e ∈ l[i].after, Region.binds .any e = true → listed[e.on]? = some true := by
      intro e he hbe
      have h1 := hdeps e he
      rw [hbe] at h1
      have h2 : listed.getD e.on false = true := by simpa using h1
      rw [Array.getD_eq_getD_getElem?] at h2
      cases hlj : listed[e.on]? with
      | none => rw [hlj] at h2; simp at h2
      | some b => rw [hlj] at h2; simpa using h2
    have hdoneD : ∀ o, l[i]? = some o → ∀ e ∈ o.after, Region.binds .any e = true → listed.getD e.on false = true := by
      intro o ho e he hbe
      rw [List.getElem?_eq_getElem hil] at ho
      injection ho with ho
      subst ho
      rw [Array.getD_eq_getD_getElem?, hdone e he hbe]; rfl
    have hfacts : ∀ j d, waitsFor l[i] j = true → dstOf l j = some d → ∃ v, a.tmps[d]? = some v ∧ a.tmps.getD d undef = v ∧ F j v W := by
      intro j d hw hd
      unfold waitsFor at hw
      rw [← Array.any_toList, List.any_eq_true] at hw
      obtain ⟨e, he, hbe⟩ := hw
      have he := Array.mem_toList_iff.1 he
      simp only [Bool.and_eq_true, beq_iff_eq] at hbe
      have hj : listed[j]? = some true := by rw [← hbe.2]; exact hdone e he hbe.1
      obtain ⟨v, hv, hF⟩ := hI.base.done j hj
      exact ⟨v, hv d hd, by rw [Array.getD_eq_getD_getElem?, hv d hd]; rfl, hF⟩
    have hkeep : ∀ t v, unwritten l t = true → a0.tmps[t]? = some v → a.tmps[t]? = some v ∧ a.tmps.getD t undef = v := by
      intro t v ht h0
      suffices hs : a.tmps[t]? = some v by exact ⟨hs, by rw [Array.getD_eq_getD_getElem?, hs]; rfl⟩
      rw [← h0]
      refine hI.base.old t fun j _ hj => ?_
      unfold dstOf at hj
      cases hlj : l[j]? with
      | none => rw [hlj] at hj; simp at hj
      | some o =>
        rw [hlj] at hj
        have := List.all_eq_true.1 ht o (List.mem_of_getElem? hlj)
        have hj' : o.dst = some t := by simpa using hj
        rw [hj'] at this
        simp at this
    have hSA := side_of hI.up hI.sa hxd hdoneD
    have hSB := side_of hI.up hI.sb hxd hdoneD
    have hsound := masks_sound l _ hI.up l [] (fun j o hj => by simpa using hj) (fun i k h => by simp at h)
    have hup2 : ClosedUp l (fun j => listed.getD j false || (j == i)) := by
      intro j o hj hlj e hem hbe
      simp only [Bool.or_eq_true, beq_iff_eq] at hlj ⊢
      rcases hlj with hlj | hlj
      · exact .inl (hI.up j o hj hlj e hem hbe)
      · subst hlj; exact .inl (hdoneD o hj e hem hbe)
    have hsound2 := masks_sound l _ hup2 l [] (fun j o hj => by simpa using hj) (fun i k h => by simp at h)
    have hearly : ∀ b : Obj2, ((masks l []).getD b.k 0).testBit i = true → listed.getD b.k false = false := by
      intro b he
      cases hl : listed.getD b.k false with
      | false => rfl
      | true =>
        have := hsound b.k i he hl
        simp only [hxd] at this
        exact absurd this (by simp)
    have hlate : ∀ b : Obj2, ((masks l []).getD i 0).testBit b.k = true → ((masks l []).getD b.k 0).testBit i = false → i ≠ b.k → listed.getD b.k false = true := by
      intro b he _ hne
      have := hsound2 i b.k he (by simp)
      simp only [Bool.or_eq_true, beq_iff_eq] at this
      rcases this with h | h
      · exact h
      · exact absurd h.symm hne
    -- the state behind it
    have next : ∀ v W', R W W' → F i v W' → SideOut (masks l []) i A W W' → SideOut (masks l []) i B W W' → wpAny P .any l.toArray Q fuel (listed.setIfInBounds i true) (a.put l[i].dst v) W' := by
      intro v W' hR hF hOA hOB
      have hget : ∀ k, (listed.setIfInBounds i true)[k]? = some true → k = i ∨ listed[k]? = some true := by
        intro k hk
        rw [Array.getElem?_setIfInBounds] at hk
        by_cases hki : i = k
        · exact .inl hki.symm
        · rw [if_neg hki] at hk; exact .inr hk
      have hdi : dstOf l i = l[i].dst := by simp [dstOf, hil]
      have hput : ∀ t, l[i].dst ≠ some t → (a.put l[i].dst v).tmps[t]? = a.tmps[t]? := by
        intro t ht
        cases hd : l[i].dst with
        | none => rfl
        | some d =>
          have hne : d ≠ t := fun e => ht (by rw [hd, e])
          simp [Act.put, Array.getElem?_setIfInBounds_ne hne]
      refine ih _ _ _ ?_ ⟨⟨by simpa using hI.base.size, ?_, ?_, htrans _ _ _ hI.base.rel hR, ?_, ?_⟩, ?_, at_next hsz hI.sa hSA hOA (hearly A) (hlate A), at_next hsz hI.sb hSB hOB (hearly B) (hlate B)⟩
      · have hcnt : ∀ (L : List Bool) (k : Nat), L[k]? = some false → ((L.set k true).filter (· == false)).length + 1 = (L.filter (· == false)).length := by
          intro L
          induction L with
          | nil => intro k hk; simp at hk
          | cons b L ihL =>
            intro k hk
            cases k with
            | zero => simp at hk; subst hk; simp
            | succ k =>
              have := ihL k (by simpa using hk)
              cases b <;> simp at this ⊢ <;> omega
        have h1 := hcnt listed.toList i (by rw [Array.getElem?_toList, Array.getElem?_eq_getElem hsz, hx])
        rw [Array.toList_setIfInBounds]
        omega
      · rw [← hI.base.defers]; cases l[i].dst <;> rfl
      · rw [← hI.base.tsize]; cases l[i].dst <;> simp [Act.put]
      · intro t ht
        have h1 : l[i].dst ≠ some t := by
          rw [← hdi]
          exact ht i (by rw [Array.getElem?_setIfInBounds, if_pos rfl, if_pos hsz])
        rw [hput t h1]
        refine hI.base.old t fun j hj => ht j ?_
        rw [Array.getElem?_setIfInBounds]
        by_cases hij : i = j
        · rw [if_pos hij, if_pos hsz]
        · rw [if_neg hij]; exact hj
      · intro k hk
        by_cases hki : k = i
        · subst hki
          refine ⟨v, fun d hd => ?_, hF⟩
          have hdd : l[k].dst = some d := by rw [← hdi]; exact hd
          have hlt : d < a.tmps.size := by rw [hI.base.tsize]; exact lexOk_dst hlex hd
          rw [hdd]
          simp [Act.put, hlt]
        · rcases hget k hk with h | h
          · exact absurd h hki
          · obtain ⟨u, hu, hFu⟩ := hI.base.done k h
            refine ⟨u, fun d hd => ?_, hstab _ _ _ _ hFu hR⟩
            rw [hput d (fun e => hki (lexOk_apart hlex hd (by rw [hdi]; exact e)))]
            exact hu d hd
      · intro j o hj hlj e hem hbe
        have hgd : ∀ j, (listed.setIfInBounds i true).getD j false = (listed.getD j false || (j == i)) := by
          intro j
          rw [Array.getD_eq_getD_getElem?, Array.getElem?_setIfInBounds]
          by_cases h : i = j
          · subst h; simp [hsz]
          · have h' : (j == i) = false := by simpa using Ne.symm h
            simp [h, h', Array.getD_eq_getD_getElem?]
        simp only [hgd] at hlj ⊢
        exact hup2 j o hj hlj e hem hbe
    unfold wpOp
    rw [hli]
    have h2 := hst a W hI.base.rel hSA hSB hkeep hfacts (wpAny P .any l.toArray Q fuel (listed.setIfInBounds i true)) next
    dsimp only
    split
    · rename_i hw; rw [if_pos hw] at h2; exact .inl h2
    · rename_i hw; rw [if_neg hw] at h2; exact h2

/-- A REGION THAT DRAWS ITS ORDER AND CHANGES TWO THINGS. -/
theorem region_objs {id : Nat} {w : World} (hm : P.follows .mixedOrders = true) (R : World → World → Prop) (rows : List (Row R)) (A B : Obj2)
    (hrefl : ∀ W, R W W) (htrans : ∀ W W' W'', R W W' → R W' W'' → R W W'') (hlex : lexOk l a0.tmps.size = true) (hA : A.pre w.drew) (hB : B.pre w.drew)
    (hk : (A.k < l.length ∧ B.k < l.length))
    (steps : ROSteps P l Q R (rowAt rows) A B (masks l []) a0 w.drew 0 l)
    (fin : ∀ (vs : Nat → Value) W, R w.drew W → A.post W → B.post W → (∀ i, i < l.length → rowAt rows i (vs i) W) → Q .normal { a0 with tmps := setAll vs 0 l a0.tmps } W) : (Code.region id l.toArray true).wp P Q a0 w := by
  have hstab : ∀ i v W W', rowAt rows i v W → R W W' → rowAt rows i v W' := fun i v W W' => (rows.getD i .any).h v W W'
  have hg0 : ∀ j, (Array.replicate l.length false).getD j false = false := by
    intro j
    rw [Array.getD_eq_getD_getElem?, Array.getElem?_replicate]
    split <;> rfl
  refine wp_region_any hm ?_
  have init : ROInv l R (rowAt rows) A B a0 w.drew (Array.replicate l.length false) a0 w.drew := by
    refine ⟨⟨by simp, rfl, rfl, hrefl _, fun _ _ => rfl, ?_⟩, ?_, ?_, ?_⟩
    · intro i hi
      rw [Array.getElem?_replicate] at hi
      split at hi <;> simp at hi
    · intro i o _ h
      simp only [hg0] at h
      exact absurd h (by simp)
    · unfold Obj2.at_; simp only [hg0]; simpa using hA
    · unfold Obj2.at_; simp only [hg0]; simpa using hB
  refine ro_any (R := R) (F := rowAt rows) (A := A) (B := B) (a0 := a0) (w0 := w.drew) htrans hstab hlex steps ?_ _ _ _ _ ?_ init
  · intro a W hJ
    have hI := hJ.base
    have hch : ∀ i, ∃ v, i < l.length → (∀ d, dstOf l i = some d → a.tmps[d]? = some v) ∧ rowAt rows i v W := by
      intro i
      by_cases hi : i < l.length
      · obtain ⟨v, hv⟩ := hI.done i (by simp [hi])
        exact ⟨v, fun _ => hv⟩
      · exact ⟨undef, fun h => absurd h hi⟩
    have hvs := fun i => (hch i).choose_spec
    have he : a = { a0 with tmps := setAll (fun i => (hch i).choose) 0 l a0.tmps } := by
      have ht : a.tmps = setAll (fun i => (hch i).choose) 0 l a0.tmps := by
        apply Array.ext_getElem?
        intro t
        by_cases hw : ∃ i, dstOf l i = some t
        · obtain ⟨i, hi⟩ := hw
          have hil : i < l.length := by
            rcases Nat.lt_or_ge i l.length with h | h
            · exact h
            · unfold dstOf at hi; rw [List.getElem?_eq_none h] at hi; simp at hi
          rw [setAll_at _ l 0 a0.tmps i t (lexOk_dst hlex hi) hi (fun j hj => lexOk_apart hlex hj hi), Nat.zero_add]
          exact (hvs i hil).1 t hi
        · rw [setAll_other]
          · exact hI.old t fun i _ hi => hw ⟨i, hi⟩
          · intro o ho hd
            obtain ⟨j, hj⟩ := List.getElem?_of_mem ho
            exact hw ⟨j, by simp [dstOf, hj, hd]⟩
      obtain ⟨tm, df⟩ := a
      have hd := hI.defers
      simp only at ht hd
      show Act.mk tm df = Act.mk _ _
      rw [← ht, hd]
    rw [he]
    have g1 : ∀ k, k < l.length → (Array.replicate l.length true).getD k false = true := by
      intro k hk
      rw [Array.getD_eq_getD_getElem?, Array.getElem?_replicate, if_pos hk]; rfl
    have sa := hJ.sa
    have sb := hJ.sb
    unfold Obj2.at_ at sa sb
    simp only [g1 _ hk.1] at sa
    simp only [g1 _ hk.2] at sb
    exact fin _ W hI.rel (by simpa using sa) (by simpa using sb) fun i hi => (hvs i hi).2
  · simp
end
end Go.Rb
