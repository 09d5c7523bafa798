/-
  The plain law of PoolRound: buffers that go round never get more, or fewer; no condition beyond those that each theorem states.
-/
import Derived.Test.YtmebpalfjcejoaaPool6
namespace Go.Proofs.Ytmebpalfjcejoaa
open Go.RowKit Go.Rb

theorem nodup_le (K : Nat) : ∀ (l : List Nat), l.Nodup → (∀ x ∈ l, x < K) → l.length ≤ K := by
  induction K with
  | zero =>
    intro l _ h
    cases l with
    | nil => simp
    | cons x t => have := h x (by simp); omega
  | succ K ih =>
    intro l hn h
    by_cases hm : K ∈ l
    · have h1 := ih (l.erase K) (hn.erase K) (fun x hx => by
        have h2 := (List.Nodup.mem_erase_iff hn).1 hx
        have h3 := h x h2.2
        have := h2.1
        omega)
      rw [List.length_erase_of_mem hm] at h1
      omega
    · have := ih l hn (fun x hx => by
        have h3 := h x hx
        have : x ≠ K := by rintro rfl; exact hm hx
        omega)
      omega
theorem nodup_all {K : Nat} {l : List Nat} (hn : l.Nodup) (h : ∀ x ∈ l, x < K) (hl : l.length = K) (i : Nat) (hi : i < K) : i ∈ l := by
  rcases Classical.em (i ∈ l) with hm | hm
  · exact hm
  · exfalso
    have := nodup_le K (i :: l) (List.nodup_cons.2 ⟨hm, hn⟩) (fun x hx => by
      rcases List.mem_cons.1 hx with hx | hx
      · omega
      · exact h x hx)
    simp at this
    omega

theorem getD_set (l : List Nat) (i j v : Nat) (hi : i < l.length) : (l.set i v).getD j 0 = if i = j then v else l.getD j 0 := by
  simp only [List.getD_eq_getElem?_getD, List.getElem?_set]
  by_cases h : i = j
  · subst h; simp [hi]
  · simp [h]
theorem getD_setB (l : List (List UInt8)) (i j : Nat) (v : List UInt8) (hi : i < l.length) : (l.set i v).getD j [] = if i = j then v else l.getD j [] := by
  simp only [List.getD_eq_getElem?_getD, List.getElem?_set]
  by_cases h : i = j
  · subst h; simp [hi]
  · simp [h]

/-- K buffers: those of H are held once, those of the line are empty. -/
structure RoundInv (K : Nat) (s : PS) (H : List Nat) : Prop where
  n : s.hs.length = K
  bl : s.bs.length = K
  z : s.size = 64
  nd : (H ++ s.ln).Nodup
  lt : ∀ x ∈ H ++ s.ln, x < K
  len : (H ++ s.ln).length = K
  one : ∀ x ∈ H, s.hs.getD x 0 = 1
  emp : ∀ x ∈ s.ln, s.bs.getD x [] = []
  sz : ∀ i, (s.bs.getD i []).length ≤ 64

theorem RoundInv.init (K : Nat) : RoundInv K (newS K 64) [] := by
  have hg : ∀ i, (List.replicate K ([] : List UInt8)).getD i [] = [] := by
    intro i
    rw [List.getD_eq_getElem?_getD, List.getElem?_replicate]
    split <;> rfl
  refine ⟨by simp [newS], by simp [newS], rfl, by simpa [newS] using List.nodup_range, by simp [newS], by simp [newS], by simp, fun x _ => hg x, fun i => ?_⟩
  show ((List.replicate K ([] : List UInt8)).getD i []).length ≤ 64
  rw [hg]; simp

theorem RoundInv.drop {K x : Nat} {s : PS} {H : List Nat} (h : RoundInv K s (x :: H)) : RoundInv K (dropS s x) H ∧ turnE s x = 0 ∧ hOf s x = 1 := by
  have hx : x < K := h.lt x (by simp)
  have h1 := h.one x (by simp)
  have hh : heldB s x := ⟨by omega, by rw [h.n]; omega, by rw [Int.toNat_natCast, h1]; omega⟩
  have hO : hOf s x = 1 := by simpa [hOf] using h1
  have hnd := h.nd
  have hxH : x ∉ H := by
    have := (List.nodup_cons.1 (by simpa using hnd : (x :: (H ++ s.ln)).Nodup)).1
    intro hm; exact this (by simp [hm])
  have hxl : x ∉ s.ln := by
    have := (List.nodup_cons.1 (by simpa using hnd : (x :: (H ++ s.ln)).Nodup)).1
    intro hm; exact this (by simp [hm])
  unfold dropS turnE
  rw [if_pos hh, if_pos hh, if_pos hO]
  simp only [Int.toNat_natCast]
  have hp : (H ++ (s.ln ++ [x])).Perm (x :: H ++ s.ln) := by
    rw [← List.append_assoc]
    simpa using (List.perm_append_singleton x (H ++ s.ln))
  refine ⟨⟨by simp [h.n], by simp [h.bl], h.z, hp.nodup_iff.2 hnd, fun y hy => h.lt y (hp.mem_iff.1 hy), by rw [hp.length_eq]; exact h.len, fun y hy => ?_, fun y hy => ?_, fun i => ?_⟩, by first | rfl | trivial, hO⟩
  · rw [getD_set _ _ _ _ (by rw [h.n]; exact hx), if_neg (by rintro rfl; exact hxH hy)]
    exact h.one y (by simp [hy])
  · rw [getD_setB _ _ _ _ (by rw [h.bl]; exact hx)]
    split
    · rfl
    · simp only [List.mem_append, List.mem_singleton] at hy
      rcases hy with hy | hy
      · exact h.emp y hy
      · rename_i hne; exact absurd hy.symm hne
  · rw [getD_setB _ _ _ _ (by rw [h.bl]; exact hx)]
    split
    · simp
    · exact h.sz i

theorem RoundInv.take {K x : Nat} {s : PS} {H t : List Nat} (h : RoundInv K s H) (hl : s.ln = x :: t) (b : List UInt8) (hb : b.length ≤ 64) :
    takeX s = (x : Int) ∧ takeE s = 0 ∧ octO (takeS s) x = [] ∧ fillE (takeS s) x b = 0 ∧ octO (fillS (takeS s) x b) x = b ∧ RoundInv K (fillS (takeS s) x b) (H ++ [x]) := by
  have hx : x < K := h.lt x (by simp [hl])
  have hxH : x ∉ H := by
    intro hm
    have := h.nd
    rw [hl] at this
    exact (List.nodup_append.1 this).2.2 x hm x (by simp) rfl
  have hxt : x ∉ t := by
    have := h.nd
    rw [hl] at this
    exact (List.nodup_cons.1 (List.nodup_append.1 this).2.1).1
  have hts : takeS s = { s with hs := s.hs.set x 1, ln := t } := by unfold takeS; rw [hl]
  have hh : heldB (takeS s) x := by
    rw [hts]
    exact ⟨by omega, by simp [h.n]; omega, by simp only [Int.toNat_natCast]; rw [getD_set _ _ _ _ (by rw [h.n]; exact hx), if_pos rfl]; omega⟩
  have hO : hOf (takeS s) x = 1 := by
    rw [hts]; simp only [hOf, Int.toNat_natCast]; rw [getD_set _ _ _ _ (by rw [h.n]; exact hx), if_pos rfl]
  have hE : fillE (takeS s) x b = 0 := by
    rw [fillE, if_pos hh, if_neg (by omega), if_neg (by rw [hts]; show ¬ s.size < _; rw [h.z]; omega)]
  have hF : fillS (takeS s) x b = { s with hs := s.hs.set x 1, bs := s.bs.set x b, ln := t } := by
    rw [fillS, if_pos hE, hts]; simp
  have hh2 : heldB (fillS (takeS s) x b) x := by
    rw [hF]
    exact ⟨by omega, by simp [h.n]; omega, by simp only [Int.toNat_natCast]; rw [getD_set _ _ _ _ (by rw [h.n]; exact hx), if_pos rfl]; omega⟩
  refine ⟨by unfold takeX; rw [hl], by unfold takeE; rw [hl], ?_, hE, ?_, ?_⟩
  · rw [octO, if_pos hh, hts]
    simp only [bOf, Int.toNat_natCast]
    exact h.emp x (by simp [hl])
  · rw [octO, if_pos hh2, hF]
    simp only [bOf, Int.toNat_natCast]
    rw [getD_setB _ _ _ _ (by rw [h.bl]; exact hx), if_pos rfl]
  · rw [hF]
    have e : H ++ [x] ++ t = H ++ s.ln := by rw [hl]; simp
    refine ⟨by simp [h.n], by simp [h.bl], h.z, by show (H ++ [x] ++ t).Nodup; rw [e]; exact h.nd, fun y hy => h.lt y (by rw [← e]; exact hy), by show (H ++ [x] ++ t).length = K; rw [e]; exact h.len, fun y hy => ?_, fun y hy => ?_, fun i => ?_⟩
    · rw [getD_set _ _ _ _ (by rw [h.n]; exact hx)]
      split
      · rfl
      · simp only [List.mem_append, List.mem_singleton] at hy
        rcases hy with hy | hy
        · exact h.one y hy
        · rename_i hne; exact absurd hy.symm hne
    · rw [getD_setB _ _ _ _ (by rw [h.bl]; exact hx), if_neg (by rintro rfl; exact hxt hy)]
      exact h.emp y (by simp only [hl]; exact List.mem_cons_of_mem _ hy)
    · rw [getD_setB _ _ _ _ (by rw [h.bl]; exact hx)]
      split
      · exact hb
      · exact h.sz i

theorem sum_zero : ∀ (l : List (List UInt8)), (∀ i, i < l.length → l.getD i [] = []) → (l.map List.length).sum = 0
  | [], _ => rfl
  | a :: l, h => by
    have h0 := h 0 (by simp)
    simp only [List.getD_cons_zero] at h0
    subst h0
    have := sum_zero l (fun i hi => by have := h (i + 1) (by simp; omega); simpa using this)
    simpa using this
theorem RoundInv.ends {K : Nat} {s : PS} (h : RoundInv K s []) : s.ln.length = K ∧ bytesO s = 0 := by
  have hl : s.ln.length = K := by simpa using h.len
  refine ⟨hl, sum_zero _ fun i hi => h.emp i (nodup_all (K := K) (by simpa using h.nd) (fun x hx => h.lt x (by simpa using hx)) hl i (by rw [← h.bl]; exact hi))⟩
end Go.Proofs.Ytmebpalfjcejoaa
