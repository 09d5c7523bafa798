/-
  A rule for regions that draw their order and end in a chain that waits for all else, where one operation of the head changes a thing: the head's operations are walked once each, the tail in its order ('region_tailo'); no condition beyond those that each theorem states.
-/
import Derived.Test.YtgfienopijlnkaaRegion4
namespace Go.Rb
open Go.RowKit

/-- A thing that operation k changes, with the value that it yields. -/
structure Obj1 where
  k : Nat
  pre : World → Prop
  post : Value → World → Prop
def Obj1.at_ (b : Obj1) (l : List Oper) (a : Act) (listed : Array Bool) (W : World) : Prop :=
  (listed[b.k]? = some true → ∃ v, (∀ d, dstOf l b.k = some d → a.tmps[d]? = some v) ∧ b.post v W) ∧ (listed[b.k]? ≠ some true → b.pre W)
section
variable (P : Program) (l : List Oper) (n : Nat) (Q : Exit → Act → World → Prop) (R : World → World → Prop) (F : Nat → Value → World → Prop) (b : Obj1) (a0 : Act) (w0 : World)
/-- One operation of the head: a slot that the tail alone writes may be read. -/
def RTStep (i : Nat) (o : Oper) : Prop :=
  ∀ a W, R w0 W → (i = b.k → b.pre W) → (∀ t v, unwritten (l.take n) t = true → a0.tmps[t]? = some v → a.tmps[t]? = some v ∧ a.tmps.getD t undef = v) →
    (∀ j d, waitsFor o j = true → dstOf l j = some d → ∃ v, a.tmps[d]? = some v ∧ a.tmps.getD d undef = v ∧ F j v W) →
    ∀ K : Act → World → Prop, (∀ v W', R W W' → F i v W' → (i = b.k → b.post v W') → (i ≠ b.k → (b.pre W → b.pre W') ∧ ∀ u, b.post u W → b.post u W') → K (a.put o.dst v) W') →
      if Region.wanted o (yielded l.toArray a.tmps) = true then o.wp P a W K Q else K (a.put o.dst undef) W
def RTSteps : Nat → List Oper → Prop
  | _, [] => True
  | i, o :: rest => RTStep P l n Q R F b a0 w0 i o ∧ RTSteps (i + 1) rest
end
section
variable {P : Program} {l : List Oper} {Q : Exit → Act → World → Prop} {R : World → World → Prop} {F : Nat → Value → World → Prop} {b : Obj1} {a0 : Act} {w0 : World}

theorem RTSteps.get {n k : Nat} {m : List Oper} (h : RTSteps P l n Q R F b a0 w0 k m) {i : Nat} {o : Oper} (hi : m[i]? = some o) : RTStep P l n Q R F b a0 w0 (k + i) o := by
  induction m generalizing k i with
  | nil => simp at hi
  | cons x m ih =>
    cases i with
    | zero => simp at hi; subst hi; exact h.1
    | succ i =>
      have := ih h.2 (by simpa using hi)
      rwa [show k + 1 + i = k + (i + 1) by omega] at this
theorem rg_tailo {n : Nat} (htl : tailOk l n = true) (htrans : ∀ W W' W'', R W W' → R W' W'' → R W W'') (hstab : ∀ i v W W', F i v W → R W W' → F i v W') (hlex : lexOk l a0.tmps.size = true)
    (hbk : b.k < n) (steps : RTSteps P l n Q R F b a0 w0 0 (l.take n))
    (fin : ∀ a W, RGInv l R F a0 w0 (headListed l.length n) a W → (∃ v, (∀ d, dstOf l b.k = some d → a.tmps[d]? = some v) ∧ b.post v W) → wpList P l.toArray Q (l.drop n) a W) :
    ∀ (fuel : Nat) (listed : Array Bool) (a : Act) (W : World), (listed.toList.filter (· == false)).length = fuel → HeadInv .any l.toArray n listed → RGInv l R F a0 w0 listed a W → b.at_ l a listed W → wpAny P .any l.toArray Q fuel listed a W := by
  simp only [tailOk, Bool.and_eq_true, decide_eq_true_eq] at htl
  obtain ⟨⟨⟨hnl, hsink⟩, hchain⟩, hseq⟩ := htl
  -- the head is done
  have full : ∀ (fuel : Nat) (listed : Array Bool) (a : Act) (W : World), (listed.toList.filter (· == false)).length = fuel → HeadInv .any l.toArray n listed → RGInv l R F a0 w0 listed a W → b.at_ l a listed W → (∀ i, i < n → listed[i]? = some true) → wpAny P .any l.toArray Q fuel listed a W := by
    intro fuel listed a W hf hH hI hO hall
    have hrep : listed = headListed l.length n := by
      apply Array.ext_getElem?
      intro i
      unfold headListed
      by_cases hi : i < n
      · rw [hall i hi, Array.getElem?_append_left (by simpa using hi)]; simp [hi]
      · by_cases h2 : i < l.length
        · have h3 := hH.tail i (by omega) (by simpa using h2)
          have hs : i < listed.size := by rw [hI.size]; exact h2
          have h4 : listed[i]? = some false := by
            rw [Array.getElem?_eq_getElem hs]
            simpa [hs] using h3
          rw [h4, Array.getElem?_append_right (by simp; omega), Array.getElem?_replicate, if_pos (by simp; omega)]
        · rw [Array.getElem?_eq_none (by rw [hI.size]; omega), Array.getElem?_eq_none (by simp; omega)]
    subst hrep
    have hcnt : fuel = (l.drop n).length := by
      rw [← hf]
      simp [headListed]
    subst hcnt
    exact wpAny_of_seq (l.drop n) n _ a W (fun j => by simp) hseq (fin a W hI (hO.1 (hall b.k hbk)))
  intro fuel
  induction fuel with
  | zero =>
    intro listed a W hf hH hI hO
    exfalso
    have hlt : n < listed.size := by rw [hI.size]; exact hnl
    have h3 := hH.tail n (Nat.le_refl _) (by simpa using hnl)
    have h4 : listed[n] = false := by simpa [hlt] using h3
    have : false ∈ listed.toList.filter (· == false) := by
      rw [List.mem_filter]
      exact ⟨by rw [← h4]; simp, rfl⟩
    have hlen := List.length_pos_of_mem this
    omega
  | succ fuel ih =>
    intro listed a W hf hH hI hO
    by_cases hall : ∀ i, i < n → listed[i]? = some true
    · exact full _ listed a W hf hH hI hO hall
    · have ⟨i0, hi0, hu0, hready⟩ : ∃ i, i < n ∧ listed.getD i true = false ∧ i ∈ Region.ready .any l.toArray listed := by
        have hex : ∃ i, i < n ∧ listed[i]? ≠ some true := by
          by_cases h : ∃ i, i < n ∧ listed[i]? ≠ some true
          · exact h
          · exact absurd (fun i hi => by
              by_cases h2 : listed[i]? = some true
              · exact h2
              · exact absurd ⟨i, hi, h2⟩ h) hall
        obtain ⟨j, hj⟩ := hex
        have hmin : ∃ i, (i < n ∧ listed[i]? ≠ some true) ∧ ∀ m, m < i → ¬ (m < n ∧ listed[m]? ≠ some true) := by
          induction j using Nat.strongRecOn with
          | _ j ihj =>
            by_cases h : ∃ m, m < j ∧ (m < n ∧ listed[m]? ≠ some true)
            · obtain ⟨m, hm, hm2⟩ := h
              exact ihj m hm hm2
            · exact ⟨j, hj, fun m hm hm2 => h ⟨m, hm, hm2⟩⟩
        obtain ⟨i, ⟨hi, hne⟩, hleast⟩ := hmin
        have hil : i < l.length := by omega
        have hsz : i < listed.size := by rw [hI.size]; exact hil
        have hb : listed[i] = false := by
          cases hb : listed[i] with
          | false => rfl
          | true => rw [Array.getElem?_eq_getElem hsz, hb] at hne; exact absurd rfl hne
        have hgd : listed.getD i true = false := by simp [hsz, hb]
        refine ⟨i, hi, hgd, ?_⟩
        unfold Region.ready
        rw [List.mem_filter]
        refine ⟨by simpa using hil, ?_⟩
        simp only [hgd, Bool.not_false, Bool.true_and]
        have hli : l.toArray[i]? = some l[i] := by simp [hil]
        rw [hli]
        simp only [Option.map_some, Option.getD_some, Array.all_eq_true_iff_forall_mem]
        intro e he
        cases hbe : Region.binds .any e with
        | false => rfl
        | true =>
          have hlt := lexOk_edge hlex (List.getElem?_eq_getElem hil) he hbe
          have h5 : listed[e.on]? = some true := by
            by_cases h6 : listed[e.on]? = some true
            · exact h6
            · exact absurd ⟨by omega, h6⟩ (hleast e.on hlt)
          simp [Array.getD_eq_getD_getElem?, h5]
      refine ⟨fun h => absurd hready (by rw [h]; simp), fun i hi => ?_⟩
      have hin : i < n := by
        rcases Nat.lt_or_ge i n with h | h
        · exact h
        · exact absurd hi (tail_waits hsink hchain (by simpa using hnl) hH _ i0 rfl hi0 hu0 i h)
      have hiready := hi
      unfold Region.ready at hi
      rw [List.mem_filter] at hi
      obtain ⟨hir, hi2⟩ := hi
      have hil : i < l.length := by simpa using hir
      have hli : l.toArray[i]? = some l[i] := by simp [hil]
      rw [hli] at hi2
      simp only [Bool.and_eq_true, Bool.not_eq_true', Option.map_some, Option.getD_some, Array.all_eq_true_iff_forall_mem] at hi2
      obtain ⟨hnl', hdeps⟩ := hi2
      have hsz : i < listed.size := by rw [hI.size]; exact hil
      have hx : listed[i] = false := by simpa [Array.getD, hsz] using hnl'
      have hst := steps.get (i := i) (o := l[i]) (by rw [List.getElem?_take, if_pos hin, List.getElem?_eq_getElem hil])
      rw [Nat.zero_add] at hst
      have hfacts : ∀ j d, waitsFor l[i] j = true → dstOf l j = some d → ∃ v, a.tmps[d]? = some v ∧ a.tmps.getD d undef = v ∧ F j v W := by
        intro j d hw hd
        unfold waitsFor at hw
        rw [← Array.any_toList, List.any_eq_true] at hw
        obtain ⟨e, he, hbe⟩ := hw
        have he := Array.mem_toList_iff.1 he
        simp only [Bool.and_eq_true, beq_iff_eq] at hbe
        have h1 := hdeps e he
        rw [hbe.1, hbe.2] at h1
        have hj : listed[j]? = some true := by
          have h2 : listed.getD j false = true := by simpa using h1
          rw [Array.getD_eq_getD_getElem?] at h2
          cases hlj : listed[j]? with
          | none => rw [hlj] at h2; simp at h2
          | some b => rw [hlj] at h2; simpa using h2
        obtain ⟨v, hv, hF⟩ := hI.done j hj
        exact ⟨v, hv d hd, by rw [Array.getD_eq_getD_getElem?, hv d hd]; rfl, hF⟩
      have hkeep : ∀ t v, unwritten (l.take n) t = true → a0.tmps[t]? = some v → a.tmps[t]? = some v ∧ a.tmps.getD t undef = v := by
        intro t v ht h0
        suffices hs : a.tmps[t]? = some v by exact ⟨hs, by rw [Array.getD_eq_getD_getElem?, hs]; rfl⟩
        rw [← h0]
        refine hI.old t fun j hjl hj => ?_
        have hjs : j < listed.size := by
          rcases Nat.lt_or_ge j listed.size with h | h
          · exact h
          · rw [Array.getElem?_eq_none h] at hjl; cases hjl
        have hjn : j < n := by
          rcases Nat.lt_or_ge j n with h | h
          · exact h
          · have h3 := hH.tail j h (by rw [hI.size] at hjs; simpa using hjs)
            have h4 : listed[j] = false := by simpa [hjs] using h3
            rw [Array.getElem?_eq_getElem hjs, h4] at hjl
            simp at hjl
        unfold dstOf at hj
        cases hlj : l[j]? with
        | none => rw [hlj] at hj; simp at hj
        | some o =>
          rw [hlj] at hj
          have := List.all_eq_true.1 ht o (List.mem_of_getElem? (i := j) (by rw [List.getElem?_take, if_pos hjn, hlj]))
          have hj' : o.dst = some t := by simpa using hj
          rw [hj'] at this
          simp at this
      -- the state behind it
      have next : ∀ v W', R W W' → F i v W' → (i = b.k → b.post v W') → (i ≠ b.k → (b.pre W → b.pre W') ∧ ∀ u, b.post u W → b.post u W') → wpAny P .any l.toArray Q fuel (listed.setIfInBounds i true) (a.put l[i].dst v) W' := by
        intro v W' hR hF hB1 hB2
        have hget : ∀ k, (listed.setIfInBounds i true)[k]? = some true → k = i ∨ listed[k]? = some true := by
          intro k hk
          rw [Array.getElem?_setIfInBounds] at hk
          by_cases hki : i = k
          · exact .inl hki.symm
          · rw [if_neg hki] at hk; exact .inr hk
        have hdi : dstOf l i = l[i].dst := by simp [dstOf, hil]
        have hput : ∀ t, l[i].dst ≠ some t → (a.put l[i].dst v).tmps[t]? = a.tmps[t]? := by
          intro t ht
          cases hd : l[i].dst with
          | none => rfl
          | some d =>
            have hne : d ≠ t := fun e => ht (by rw [hd, e])
            simp [Act.put, Array.getElem?_setIfInBounds_ne hne]
        refine ih _ _ _ ?_ (hH.set hiready hin) ⟨by simpa using hI.size, ?_, ?_, htrans _ _ _ hI.rel hR, ?_, ?_⟩ ?_
        rotate_right
        · by_cases hik : i = b.k
          · subst hik
            refine ⟨fun _ => ⟨v, fun d hd => ?_, hB1 rfl⟩, fun hn => absurd ?_ hn⟩
            · have hdd : l[b.k].dst = some d := by rw [← hdi]; exact hd
              have hlt : d < a.tmps.size := by rw [hI.tsize]; exact lexOk_dst hlex hd
              rw [hdd]
              simp [Act.put, hlt]
            · rw [Array.getElem?_setIfInBounds, if_pos rfl, if_pos hsz]
          · obtain ⟨h1, h2⟩ := hB2 hik
            refine ⟨fun hk => ?_, fun hn => h1 (hO.2 (fun hk => hn ?_))⟩
            · rcases hget b.k hk with h | h
              · exact absurd h.symm hik
              · obtain ⟨u, hu, hp⟩ := hO.1 h
                refine ⟨u, fun d hd => ?_, h2 u hp⟩
                rw [hput d (fun e => hik ((lexOk_apart hlex (by rw [hdi]; exact e) hd)))]
                exact hu d hd
            · rw [Array.getElem?_setIfInBounds, if_neg hik]; exact hk
        · have hcnt : ∀ (L : List Bool) (k : Nat), L[k]? = some false → ((L.set k true).filter (· == false)).length + 1 = (L.filter (· == false)).length := by
            intro L
            induction L with
            | nil => intro k hk; simp at hk
            | cons b L ihL =>
              intro k hk
              cases k with
              | zero => simp at hk; subst hk; simp
              | succ k =>
                have := ihL k (by simpa using hk)
                cases b <;> simp at this ⊢ <;> omega
          have h1 := hcnt listed.toList i (by rw [Array.getElem?_toList, Array.getElem?_eq_getElem hsz, hx])
          rw [Array.toList_setIfInBounds]
          omega
        · rw [← hI.defers]; cases l[i].dst <;> rfl
        · rw [← hI.tsize]; cases l[i].dst <;> simp [Act.put]
        · intro t ht
          have h1 : l[i].dst ≠ some t := by
            rw [← hdi]
            exact ht i (by rw [Array.getElem?_setIfInBounds, if_pos rfl, if_pos hsz])
          rw [hput t h1]
          refine hI.old t fun j hj => ht j ?_
          rw [Array.getElem?_setIfInBounds]
          by_cases hij : i = j
          · rw [if_pos hij, if_pos hsz]
          · rw [if_neg hij]; exact hj
        · intro k hk
          by_cases hki : k = i
          · subst hki
            refine ⟨v, fun d hd => ?_, hF⟩
            have hdd : l[k].dst = some d := by rw [← hdi]; exact hd
            have hlt : d < a.tmps.size := by rw [hI.tsize]; exact lexOk_dst hlex hd
            rw [hdd]
            simp [Act.put, hlt]
          · rcases hget k hk with h | h
            · exact absurd h hki
            · obtain ⟨u, hu, hFu⟩ := hI.done k h
              refine ⟨u, fun d hd => ?_, hstab _ _ _ _ hFu hR⟩
              rw [hput d (fun e => hki (lexOk_apart hlex hd (by rw [hdi]; exact e)))]
              exact hu d hd
      unfold wpOp
      rw [hli]
      have h2 := hst a W hI.rel (fun hik => hO.2 (fun hk => by rw [← hik, Array.getElem?_eq_getElem hsz, hx] at hk; simp at hk)) hkeep hfacts (wpAny P .any l.toArray Q fuel (listed.setIfInBounds i true)) next
      dsimp only
      split
      · rename_i hw; rw [if_pos hw] at h2; exact .inl h2
      · rename_i hw; rw [if_neg hw] at h2; exact h2

/-- A REGION THAT DRAWS ITS ORDER AND ENDS IN A CHAIN. -/
theorem region_tailo {id : Nat} {w : World} (n : Nat) (hm : P.follows .mixedOrders = true) (htl : tailOk l n = true) (R : World → World → Prop) (rows : List (Row R))
    (hrefl : ∀ W, R W W) (htrans : ∀ W W' W'', R W W' → R W' W'' → R W W'') (hlex : lexOk l a0.tmps.size = true)
    (b : Obj1) (hbk : b.k < n) (hpre : b.pre w.drew) (hbd : (dstOf l b.k).isSome = true)
    (steps : RTSteps P l n Q R (rowAt rows) b a0 w.drew 0 (l.take n))
    (fin : ∀ (vs : Nat → Value) W, R w.drew W → b.post (vs b.k) W → (∀ i, i < n → rowAt rows i (vs i) W) → wpList P l.toArray Q (l.drop n) { a0 with tmps := setAll vs 0 (l.take n) a0.tmps } W) : (Code.region id l.toArray true).wp P Q a0 w := by
  have hnl : n < l.length := by simp only [tailOk, Bool.and_eq_true, decide_eq_true_eq] at htl; exact htl.1.1.1
  refine wp_region_any hm ?_
  refine rg_tailo (R := R) (F := rowAt rows) (b := b) (a0 := a0) (w0 := w.drew) (n := n) htl htrans (fun i v W W' => (rows.getD i .any).h v W W') hlex hbk steps ?_ _ _ _ _ ?_ ⟨by simp, fun j oj _ hl => absurd hl (by rw [getD_replicate_false]; decide), fun t _ ht => by
      simp at ht
      simp [ht]⟩ ⟨by simp, rfl, rfl, hrefl _, fun _ _ => rfl, ?_⟩ ⟨fun hk => absurd hk (by rw [Array.getElem?_replicate]; split <;> simp), fun _ => hpre⟩
  · intro a W hI hO
    have hlisted : ∀ i, i < n → (headListed l.length n)[i]? = some true := fun i hi => by
      unfold headListed
      rw [Array.getElem?_append_left (by simpa using hi)]
      simp [hi]
    have hlisted2 : ∀ i, (headListed l.length n)[i]? = some true → i < n := fun i hi => by
      rcases Nat.lt_or_ge i n with h | h
      · exact h
      · unfold headListed at hi
        rw [Array.getElem?_append_right (by simpa using h), Array.getElem?_replicate] at hi
        split at hi <;> simp at hi
    have hch : ∀ i, ∃ v, i < n → (∀ d, dstOf l i = some d → a.tmps[d]? = some v) ∧ rowAt rows i v W := by
      intro i
      by_cases hi : i < n
      · obtain ⟨v, hv⟩ := hI.done i (hlisted i hi)
        exact ⟨v, fun _ => hv⟩
      · exact ⟨undef, fun h => absurd h hi⟩
    have hvs := fun i => (hch i).choose_spec
    have hdt : ∀ i d, dstOf (l.take n) i = some d → i < n ∧ dstOf l i = some d := fun i d hd => by
      unfold dstOf at hd ⊢
      rw [List.getElem?_take] at hd
      by_cases hi : i < n
      · rw [if_pos hi] at hd; exact ⟨hi, hd⟩
      · rw [if_neg hi] at hd; simp at hd
    have he : a = { a0 with tmps := setAll (fun i => (hch i).choose) 0 (l.take n) a0.tmps } := by
      have ht : a.tmps = setAll (fun i => (hch i).choose) 0 (l.take n) a0.tmps := by
        apply Array.ext_getElem?
        intro t
        by_cases hw : ∃ i, dstOf (l.take n) i = some t
        · obtain ⟨i, hi⟩ := hw
          obtain ⟨hin, hil⟩ := hdt i t hi
          rw [setAll_at _ (l.take n) 0 a0.tmps i t (lexOk_dst hlex hil) hi (fun j hj => lexOk_apart hlex (hdt j t hj).2 hil), Nat.zero_add]
          exact (hvs i hin).1 t hil
        · rw [setAll_other]
          · exact hI.old t fun i hi hd => hw ⟨i, by
              have hin := hlisted2 i hi
              unfold dstOf at hd ⊢
              rw [List.getElem?_take, if_pos hin]; exact hd⟩
          · intro o ho hd
            obtain ⟨j, hj⟩ := List.getElem?_of_mem ho
            exact hw ⟨j, by simp [dstOf, hj, hd]⟩
      obtain ⟨tm, df⟩ := a
      have hd := hI.defers
      simp only at ht hd
      show Act.mk tm df = Act.mk _ _
      rw [← ht, hd]
    have hpost : b.post (hch b.k).choose W := by
      obtain ⟨d, hd⟩ := Option.isSome_iff_exists.1 hbd
      obtain ⟨v, hv, hp⟩ := hO
      have e := (hvs b.k hbk).1 d hd
      rw [hv d hd] at e
      injection e with e
      rw [← e]; exact hp
    rw [he]
    exact fin _ W hI.rel hpost fun i hi => (hvs i hi).2
  · simp
  · intro i hi
    rw [Array.getElem?_replicate] at hi
    split at hi <;> simp at hi
end
end Go.Rb
